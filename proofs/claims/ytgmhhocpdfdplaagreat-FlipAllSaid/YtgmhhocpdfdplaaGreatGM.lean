/- Texts on one foundation, joined: SameE, SameC, CopyS, Copy, CopyL, OwnL. -/
import Derived.Test.YtgmhhocpdfdplaaGreatGG
import Derived.Test.YtgmhhocpdfdplaaGreatGJ
import Derived.Laws.StructEq
/- Package slices: Equal of tables and of tags. -/
namespace Go.Proofs.YtgmhhocpdfdplaaGreat
open Go.RowKit
set_option maxRecDepth 100000
set_option maxHeartbeats 4000000
/-- A table's own numbers. -/
def qd (q : QuantArg) : Int × List Int := (q.at_, q.q)
/-- A tag's own bytes. -/
def td (t : TagArg) : Int × List UInt8 := (t.kind, t.body.toList)
theorem arr_at (q : QuantArg) : q.arr[0]? = some (.int .i64 q.at_) := by simp [QuantArg.arr, QuantArg.cells]
theorem arr_tab {q : QuantArg} (h : q.Ok) : q.arr.extract 1 (1 + 64) = ints .u16 q.q := by
  have hl := h.l64
  unfold QuantArg.arr QuantArg.cells ints
  apply Array.ext'
  simp only [Array.toList_extract, List.extract_eq_take_drop]
  simp
  rw [List.take_of_length_le (by simp [hl])]
theorem run_quant_eq (x y : QuantArg) (hx : x.Ok) (hy : y.Ok) (w : World) : (Op.equalIn 10000 40 (.agg x.arr) (.agg y.arr)).run Tryz.prog w = .ok (decide (qd x = qd y)) w := by
  have u3 := Tryz.underlying3
  have u35 := Tryz.underlying38
  have hS : Tryz.prog.underlying 40 = some (.struct (Tryz.prog.fieldsOf 40)) := by kernel_rfl
  have hp : Tryz.prog.stoodInHeld 40 = false := by kernel_rfl
  have p0 : ∀ q : QuantArg, (part 3 q.arr 0).run Tryz.prog w = .ok (.int .i64 q.at_) w := fun q => by
    unfold part
    have h1 : (isAgg 3).run Tryz.prog w = .ok false w := by
      unfold isAgg
      rw [Sem.run_bind, run_underlying u3 w]
      simp
    rw [Sem.run_bind, h1]
    simp [arr_at]
  have p1 : ∀ q : QuantArg, q.Ok → (part 38 q.arr 1).run Tryz.prog w = .ok (.agg (ints .u16 q.q)) w := fun q hq => by
    unfold part
    have h1 : (isAgg 38).run Tryz.prog w = .ok true w := by
      unfold isAgg
      rw [Sem.run_bind, run_underlying u35 w]
      simp
    rw [Sem.run_bind, h1]
    simp [arr_tab hq]
  rw [show (10000 : Nat) = 9999 + 1 from rfl, run_equalIn_struct w 9999 40 _ _ hS hp]
  simp only [Program.fieldsOf, Tryz.underlying40]
  have hi := run_equalIn_int (P := Tryz.prog) w 9998 3 .i64 .i64 x.at_ y.at_ u3
  have ha := run_equalIn_ints (P := Tryz.prog) w 9997 64 38 37 .u16 x.q y.q u35 Tryz.underlying37 (by kernel_rfl) hx.l64 hy.l64
  simp only [Op.eqFields]
  rw [if_pos (by decide), Sem.run_bind, p0 x, Result.andThen_ok, Sem.run_bind, p0 y, Result.andThen_ok, Sem.run_bind, hi, Result.andThen_ok]
  by_cases h1 : x.at_ = y.at_
  · have e1 : (x.at_ == y.at_) = true := by simpa using h1
    rw [e1]
    simp only [Bool.not_true, Bool.false_eq_true, if_false]
    rw [if_pos (by decide), Sem.run_bind, p1 x hx, Result.andThen_ok, Sem.run_bind, p1 y hy, Result.andThen_ok, Sem.run_bind, ha, Result.andThen_ok]
    by_cases h2 : x.q = y.q
    · simp [qd, h1, h2]
    · simp [qd, h1, h2]
  · have e1 : (x.at_ == y.at_) = false := by simpa using h1
    rw [e1]
    simp [qd, h1]
theorem run_exec_neq_quant {o : Oper} {a : Act} {w : World} (ty : TypeId) (x y : Operand) (ho : o.op = .binOp .neq 40 x y ty) (p q : QuantArg) (hp : p.Ok) (hq : q.Ok) (hx : a.eval x = .agg p.arr) (hy : a.eval y = .agg q.arr) :
    (execOp a.eval o).run Tryz.prog w = .ok (.value (.bool (!decide (qd p = qd q)))) w := by
  have e : (binOp .neq 40 (.agg p.arr) (.agg q.arr)).run Tryz.prog w = .ok (.bool (!decide (qd p = qd q))) w := by
    rw [run_neq_struct, run_quant_eq p q hp hq]
    rfl
  unfold execOp
  simp only [ho, hx, hy, Sem.run_bind, Sem.run_pure, Result.andThen_ok, run_eqGuard_agg w .neq 40 x y _ _ (show Tryz.prog.eqGuardType Tryz.prog.depth 40 = false by kernel_rfl), e]
theorem neq_tag (x y : TagArg) (w : World) : (binOp .neq 70 (.agg #[.int .i64 x.kind, .string x.body]) (.agg #[.int .i64 y.kind, .string y.body])).run Tryz.prog w = .ok (.bool (!decide (td x = td y))) w := by
  have u3 := Tryz.underlying3
  have us := Tryz.underlying9
  have hS : Tryz.prog.underlying 70 = some (.struct (Tryz.prog.fieldsOf 70)) := by kernel_rfl
  have hp : Tryz.prog.stoodInHeld 70 = false := by kernel_rfl
  obtain ⟨x1, x2⟩ := x
  obtain ⟨y1, y2⟩ := y
  simp only [td]
  rw [run_neq_struct, show (10000 : Nat) = 9999 + 1 from rfl, run_equalIn_struct w 9999 70 _ _ hS hp]
  simp only [Program.fieldsOf, Tryz.underlying70]
  go_simp
  by_cases h1 : x1 = y1 <;> by_cases h2 : x2.toList = y2.toList <;> simp [h1, h2]
theorem run_exec_neq_tag {o : Oper} {a : Act} {w : World} (ty : TypeId) (x y : Operand) (ho : o.op = .binOp .neq 70 x y ty) (p q : TagArg) (hx : a.eval x = .agg #[.int .i64 p.kind, .string p.body]) (hy : a.eval y = .agg #[.int .i64 q.kind, .string q.body]) :
    (execOp a.eval o).run Tryz.prog w = .ok (.value (.bool (!decide (td p = td q)))) w := by
  have e := neq_tag p q w
  unfold execOp
  simp only [ho, hx, hy, Sem.run_bind, Sem.run_pure, Result.andThen_ok, run_eqGuard_agg w .neq 70 x y _ _ (show Tryz.prog.eqGuardType Tryz.prog.depth 70 = false by kernel_rfl), e]
/-- Alike up to a place. -/
structure EqTo {α : Type} (xs ys : List α) (j : Nat) : Prop where
  e : ∀ k, k < j → xs[k]? = ys[k]?
theorem EqTo.zero {α : Type} (xs ys : List α) : EqTo xs ys 0 := ⟨fun k hk => absurd hk (by omega)⟩
theorem EqTo.step {α : Type} {xs ys : List α} {j : Nat} (h : EqTo xs ys j) (hj : xs[j]? = ys[j]?) : EqTo xs ys (j + 1) := ⟨fun k hk => by
  by_cases hkj : k = j
  · rw [hkj]; exact hj
  · exact h.e k (by omega)⟩
theorem EqTo.all {α : Type} {xs ys : List α} {n : Nat} (h : EqTo xs ys n) (h1 : xs.length = n) (h2 : ys.length = n) : xs = ys := List.ext_getElem? fun k => by
  by_cases hk : k < n
  · exact h.e k hk
  · rw [List.getElem?_eq_none (by omega), List.getElem?_eq_none (by omega)]
end Go.Proofs.YtgmhhocpdfdplaaGreat
/- Package image: sameComp; slices.EqualFunc of components at it; Same. -/
namespace Go.Proofs.YtgmhhocpdfdplaaGreat
open Go.RowKit
set_option maxRecDepth 100000
set_option maxHeartbeats 8000000
/-- A component's own numbers. -/
def cd (c : CompArg) : (Int × Int × Int × Int) × Int × Int × List (List Int) := ((c.id, c.h, c.v, c.q), c.c, c.r, c.bs)
def CompArg.val (c : CompArg) : Value := .agg #[.int .i64 c.id, .int .i64 c.h, .int .i64 c.v, .int .i64 c.q, .int .i64 c.c, .int .i64 c.r, c.u]
/-- Are two images alike? -/
def sameB (x y : ImgArg) : Bool := decide (x.w = y.w ∧ x.h = y.h ∧ x.cs.map cd = y.cs.map cd ∧ x.qs.map qd = y.qs.map qd ∧ x.ts.map td = y.ts.map td)
/-- Two images in blocks N and N + 1. -/
structure TwoI (N : Nat) (x y : ImgArg) (w W : World) : Prop where
  bN : Blk W N #[.int .i64 x.w, .int .i64 x.h, x.cu, x.qu, x.tu] 26
  bM : Blk W (N + 1) #[.int .i64 y.w, .int .i64 y.h, y.cu, y.qu, y.tu] 26
  hx : IsImg W (.agg #[.int .i64 x.w, .int .i64 x.h, x.cu, x.qu, x.tu]) x
  hy : IsImg W (.agg #[.int .i64 y.w, .int .i64 y.h, y.cu, y.qu, y.tu]) y
  hM : w.heap.size ≤ N
  hB : Below w.heap.size w W
theorem TwoI.below {N : Nat} {x y : ImgArg} {w W W' : World} (h : TwoI N x y w W) (hb : Below W.heap.size W W') : TwoI N x y w W' :=
  ⟨h.bN.below hb h.bN.lt, h.bM.below hb h.bM.lt, h.hx.below hb, h.hy.below hb, h.hM, h.hB.trans (hb.mono h.hB.size)⟩
theorem TwoI.begin {x y : ImgArg} {w : World} (h1 : IsImg w x.val x) (h2 : IsImg w y.val y) : TwoI w.heap.size x y w ((w.alloc (.cells #[.int .i64 x.w, .int .i64 x.h, x.cu, x.qu, x.tu] 26)).alloc (.cells #[.int .i64 y.w, .int .i64 y.h, y.cu, y.qu, y.tu] 26)) := by
  have hb : Below w.heap.size w ((w.alloc (.cells #[.int .i64 x.w, .int .i64 x.h, x.cu, x.qu, x.tu] 26)).alloc (.cells #[.int .i64 y.w, .int .i64 y.h, y.cu, y.qu, y.tu] 26)) := ((Below.refl _ _).alloc (Nat.le_refl _) _).alloc (by simp) _
  exact ⟨(Blk.new _ _ _).alloc _, Blk.new' _ _ _ (by simp), h1.below hb, h2.below hb, Nat.le_refl _, hb⟩
end Go.Proofs.YtgmhhocpdfdplaaGreat
/- Package image: what Copy makes, in plain words; the image while it is made. -/
namespace Go.Proofs.YtgmhhocpdfdplaaGreat
open Go.RowKit
set_option maxRecDepth 100000
def setU (x : CompArg) (u : Value) : CompArg := ⟨x.id, x.h, x.v, x.q, x.c, x.r, u, x.bs⟩
theorem flat_set1 {L : List CompArg} {k : Nat} (hk : k < L.length) (c : Value) :
    ((L.map CompArg.cells).flatten.set (k * 7 + 6) c) = ((L.set k (setU (L[k]'hk) c)).map CompArg.cells).flatten := by
  have e1 : L = L.take k ++ (L[k]'hk) :: L.drop (k + 1) := by
    rw [← List.drop_eq_getElem_cons hk, List.take_append_drop]
  have e2 : L.set k (setU (L[k]'hk) c) = L.take k ++ setU (L[k]'hk) c :: L.drop (k + 1) := by rw [List.set_eq_take_append_cons_drop, if_pos hk]
  rw [e2, List.map_append, List.flatten_append, List.map_cons, List.flatten_cons]
  have e3 : (L.map CompArg.cells).flatten = ((L.take k).map CompArg.cells).flatten ++ ((L[k]'hk).cells ++ ((L.drop (k + 1)).map CompArg.cells).flatten) := by
    conv => lhs; rw [e1]
    rw [List.map_append, List.flatten_append, List.map_cons, List.flatten_cons]
  have hlA : ((L.take k).map CompArg.cells).flatten.length = k * 7 := by
    have : ∀ M : List CompArg, (M.map CompArg.cells).flatten.length = M.length * 7 := fun M => by
      induction M with
      | nil => rfl
      | cons c M ih => rw [List.map_cons, List.flatten_cons, List.length_append, ih]; simp [CompArg.cells]; omega
    rw [this, List.length_take, Nat.min_eq_left (by omega)]
  rw [e3]
  generalize ((L.take k).map CompArg.cells).flatten = A at *
  generalize ((L.drop (k + 1)).map CompArg.cells).flatten = B at *
  rw [List.set_append_right _ _ (by omega), hlA, show k * 7 + 6 - k * 7 = 6 by omega]
  rfl
/-- The components' own slice, and the planes' own slices of the first k. -/
structure CpC (N k : Nat) (cu : Value) (cs : List CompArg) (w W : World) : Prop where
  row : Row W N 48 7 cu cs.length (cs.map CompArg.cells).flatten
  old : ∀ i (hi : i < cs.length), k ≤ i → (cs[i]'hi).Ok w
  own : ∀ i (hi : i < cs.length), i < k → Row W N 66 64 (cs[i]'hi).u (cs[i]'hi).bs.length (bcells (cs[i]'hi).bs)
  ok : ∀ i (hi : i < cs.length), i < k → ∀ W', Ar W' 64 (cs[i]'hi).u (cs[i]'hi).bs.length (bcells (cs[i]'hi).bs) → (cs[i]'hi).Ok W'
  dis : ∀ i j (hi : i < cs.length) (hj : j < cs.length), i < k → j < k → i ≠ j → ∀ g, (cs[i]'hi).u.ownBlock = some g → (cs[j]'hj).u.ownBlock ≠ some g
  hN : N = w.heap.size
  hB : Below N w W
  hW : N ≤ W.heap.size
theorem CpC.below {N k : Nat} {cu : Value} {cs : List CompArg} {w W W' : World} (h : CpC N k cu cs w W) (hb : Below W.heap.size W W') : CpC N k cu cs w W' :=
  ⟨h.row.grow hb, h.old, fun i hi hk => (h.own i hi hk).grow hb, h.ok, h.dis, h.hN, h.hB.trans (hb.mono h.hW), Nat.le_trans h.hW hb.size⟩
theorem CpC.comps {N k : Nat} {cu : Value} {cs : List CompArg} {w W : World} (h : CpC N k cu cs w W) (hl : cs.length ≤ 1000000) : IsComps W cu cs :=
  ⟨Ar.elems h.row.ar (fun c hc => by obtain ⟨p, _, rfl⟩ := List.mem_map.1 hc; rfl) (by simp) (by simp only [maxLen]; omega), fun c hc => by
    obtain ⟨i, hi, rfl⟩ := List.getElem_of_mem hc
    by_cases hik : i < k
    · exact h.ok i hi hik W (h.own i hi hik).ar
    · exact (h.old i hi (by omega)).below (by rw [← h.hN]; exact h.hB)⟩
/-- What else is changed. -/
theorem CpC.same {N k : Nat} {cu : Value} {cs : List CompArg} {w W W' : World} (h : CpC N k cu cs w W) (hb : ∀ g, (∃ cur, Blk W g cur 48 ∨ Blk W g cur 66) → W'.heap[g]? = W.heap[g]?) (hB : Below N w W') (hW : N ≤ W'.heap.size) : CpC N k cu cs w W' := by
  have key : ∀ {e : TypeId} {size : Nat} {v : Value} {n : Nat} {xs : List Value}, e = 48 ∨ e = 66 → Row W N e size v n xs → Row W' N e size v n xs := fun he hr => by
    refine hr.same fun g hg => hb g ?_
    rcases hr.2 with ⟨h0, _⟩ | ⟨g', cap', cur, h0, _, h3, _⟩
    · rw [h0] at hg; cases hg
    · rw [h0] at hg
      obtain rfl : g' = g := Option.some.inj hg
      rcases he with rfl | rfl
      · exact ⟨_, .inl h3⟩
      · exact ⟨_, .inr h3⟩
  exact ⟨key (.inl rfl) h.row, h.old, fun i hi hk => key (.inr rfl) (h.own i hi hk), h.ok, h.dis, h.hN, hB, hW⟩
theorem CpC.put {N k g cap : Nat} {cs : List CompArg} {w W W0 : World} (h : CpC N k (.slice (some ⟨g, 0, none⟩) cs.length cap) cs w W) (hk : k < cs.length) (v : Value) {lo : Nat}
    (hlo : N ≤ lo) (hold : CpC N k (.slice (some ⟨g, 0, none⟩) cs.length cap) cs w W0) (hl0 : W0.heap.size ≤ lo)
    (hv : Row W lo 66 64 v (cs[k]'hk).bs.length (bcells (cs[k]'hk).bs)) :
    CpC N (k + 1) (.slice (some ⟨g, 0, none⟩) cs.length cap) (cs.set k (setU (cs[k]'hk) v)) w (W.setCell ⟨g, k * 7 + 6, none⟩ v) := by
  have hg := h.row.lt g rfl
  have hne : ∀ {lo : Nat} {size : Nat} {u : Value} {n : Nat} {xs : List Value}, Row W lo 66 size u n xs → Row (W.setCell ⟨g, k * 7 + 6, none⟩ v) lo 66 size u n xs := fun hr => by
    refine hr.other _ _ fun b hb e => ?_
    obtain ⟨cur, hc⟩ := h.row.blk
    have e' : b = g := e
    subst e'
    exact hr.typed hc (by decide) b hb rfl
  have gs : ∀ i (hi : i < cs.length) (hi' : i < (cs.set k (setU (cs[k]'hk) v)).length), i ≠ k → (cs.set k (setU (cs[k]'hk) v))[i]'hi' = cs[i]'hi := fun i hi hi' e => by rw [List.getElem_set_ne (fun h => e h.symm)]
  have gk : ∀ (hi' : k < (cs.set k (setU (cs[k]'hk) v)).length), (cs.set k (setU (cs[k]'hk) v))[k]'hi' = setU (cs[k]'hk) v := fun hi' => by rw [List.getElem_set_self]
  refine ⟨?_, fun i hi hik => ?_, fun i hi hik => ?_, fun i hi hik W' ha => ?_, fun i j hi hj hik hjk hij b hb => ?_, h.hN, h.hB.setCell hg.1 _, by simpa using h.hW⟩
  · have := h.row.set (k * 7 + 6) (by omega) v
    rw [flat_set1 hk] at this
    rw [List.length_set]
    exact this
  · have hi2 : i < cs.length := by simpa using hi
    rw [gs i hi2 hi (by omega)]
    exact h.old i hi2 (by omega)
  · have hi2 : i < cs.length := by simpa using hi
    by_cases hek : i = k
    · subst hek
      rw [gk]
      exact hne (hv.down hlo)
    · rw [gs i hi2 hi hek]
      exact hne (h.own i hi2 (by omega))
  · have hi2 : i < cs.length := by simpa using hi
    by_cases hek : i = k
    · subst hek
      rw [gk] at ha ⊢
      have hx := h.old i hi2 (Nat.le_refl _)
      exact ⟨ha, hx.h64, hx.wb, hx.wid, hx.wh, hx.wv, hx.wq, hx.wc, hx.wr⟩
    · rw [gs i hi2 hi hek] at ha ⊢
      exact h.ok i hi2 (by omega) W' ha
  · have hi2 : i < cs.length := by simpa using hi
    have hj2 : j < cs.length := by simpa using hj
    have old : ∀ m (hm : m < cs.length), m < k → ∀ b, (cs[m]'hm).u.ownBlock = some b → b < lo := fun m hm hmk b hb => Nat.lt_of_lt_of_le ((hold.own m hm hmk).lt b hb).2 hl0
    by_cases hek : i = k
    · subst hek
      rw [gk] at hb
      rw [gs j hj2 hj (fun e => hij e.symm)]
      intro e
      have h1 := old j hj2 (by omega) b e
      have h2 := (hv.lt b hb).1
      omega
    · rw [gs i hi2 hi hek] at hb
      by_cases hfk : j = k
      · subst hfk
        rw [gk]
        intro e
        have h1 := old i hi2 (by omega) b hb
        have h2 := (hv.lt b e).1
        omega
      · rw [gs j hj2 hj hfk]
        exact h.dis i j hi2 hj2 (by omega) (by omega) hij b hb
end Go.Proofs.YtgmhhocpdfdplaaGreat
/- Package image: Copy. -/
namespace Go.Proofs.YtgmhhocpdfdplaaGreat
open Go.RowKit
set_option maxRecDepth 100000
set_option maxHeartbeats 8000000
/-- An image of its own: rows of its own, each plane apart. -/
structure OwnI (N : Nat) (x : ImgArg) (w W : World) : Prop where
  c : CpC N x.cs.length x.cu x.cs w W
  q : Row W N 40 65 x.qu x.qs.length (x.qs.map QuantArg.cells).flatten
  t : Row W N 70 2 x.tu x.ts.length (x.ts.map TagArg.cells).flatten
  qok : ∀ q ∈ x.qs, q.Ok
  tok : ∀ t ∈ x.ts, t.Ok
structure SameD (x y : ImgArg) : Prop where
  w : y.w = x.w
  h : y.h = x.h
  cs : y.cs.map cd = x.cs.map cd
  qs : y.qs = x.qs
  ts : y.ts = x.ts
theorem tag_one (ts : List TagArg) : ∀ u ∈ (ts.map TagArg.cells).flatten, u.oneCell' = true := by
  intro u hu
  obtain ⟨c, hc, hu⟩ := List.mem_flatten.1 hu
  obtain ⟨x, hx, rfl⟩ := List.mem_map.1 hc
  simp only [TagArg.cells, List.mem_cons, List.not_mem_nil, or_false] at hu
  rcases hu with rfl | rfl <;> rfl
def shRow (n : Nat) (v : Value) : Prop := ∃ b cap, v = .slice b n cap
def fRow (e : TypeId) (size n : Nat) (xs : List Value) (v : Value) : Fact := fun lo hi w => Row w lo e size v n xs ∧ ∀ g, v.ownBlock = some g → g < hi
theorem fRow_mono (e : TypeId) (size n : Nat) (xs : List Value) (v : Value) : (fRow e size n xs v).Mono := by
  intro lo hi w w' h hs hB
  exact ⟨h.1.grow hB, h.2⟩
theorem img_copy (x : ImgArg) (hf : FewOk x) (w : World) (h : IsImg w x.val x) :
    Calls Tryz.prog 28 #[x.val] w fun r w' => ∃ x1, r = .returned x1.val ∧ SameD x x1 ∧ OwnI w.heap.size x1 w w' := by
  have hc20 := hf.c20
  have hq20 := hf.q20
  have ht100 := hf.t100
  have HF := Lib.hid hf.b300
  obtain ⟨N, hN⟩ : ∃ N, N = w.heap.size := ⟨_, rfl⟩
  have HN := Lib.hid hN
  rw [← hN]
  have hbe : Below w.heap.size w ((w.alloc (.cells #[.int .i64 x.w, .int .i64 x.h, x.cu, x.qu, x.tu] 26)).alloc (.cells #[.int .i64 0, .int .i64 0, .slice none 0 0, .slice none 0 0, .slice none 0 0] 26)) := ((Below.refl _ _).alloc (Nat.le_refl _) _).alloc (by simp) _
  have har : ∀ W, Below w.heap.size w W → Ar W 7 x.cu x.cs.length (x.cs.map CompArg.cells).flatten := fun W hb => by
    have := (h.cs.below hb).el.ar
    rwa [List.length_map] at this
  have haq : ∀ W, Below w.heap.size w W → Ar W 65 x.qu x.qs.length (x.qs.map QuantArg.cells).flatten := fun W hb => by
    have := (h.qs.el.below hb).ar
    rwa [List.length_map] at this
  have hat : ∀ W, Below w.heap.size w W → Ar W 2 x.tu x.ts.length (x.ts.map TagArg.cells).flatten := fun W hb => by
    have := (h.ts.el.below hb).ar
    rwa [List.length_map] at this
  have hcc := fun W hb => comp_clone x.cu x.cs.length _ (by omega) W (har W hb) (comp_one h.cs)
  have hqc := fun W hb => quant_clone x.qu x.qs.length _ (by omega) W (haq W hb) (quant_one x.qs)
  have htc := fun W hb => tag_clone x.tu x.ts.length _ (by omega) W (hat W hb) (tag_one x.ts)
  have HOK := Lib.hid h.cs.ok
  have HQO := Lib.hid h.qs.ok
  have HTO := Lib.hid h.ts.ok
  unfold ImgArg.val
  clear hN har haq hat h hf
  go_enter Tryz.func28, Tryz.ntmps28
  go_upto_region 1 with fail
  rw [← HN.out]
  refine wp_world (fun W => (Blk W N #[.int .i64 x.w, .int .i64 x.h, x.cu, x.qu, x.tu] 26 ∧ Blk W (N + 1) #[.int .i64 0, .int .i64 0, .slice none 0 0, .slice none 0 0, .slice none 0 0] 26) ∧ Below w.heap.size w W) ⟨⟨(Blk.new' _ _ _ HN.out).alloc _, Blk.new' _ _ _ (by rw [HN.out]; simp)⟩, hbe⟩ ?_
  clear hbe
  rintro W ⟨⟨bN, bM⟩, hB⟩
  have q2 := bN.cell 2
  go_upto_region 2 with (go_at_call 20; refine (hcc _ hB).mono ?_; rintro r w1 ⟨cu, rfl, hR1, hb1⟩; obtain ⟨cb, ccap, rfl⟩ := hR1.len; have bN1 := bN.below hb1 bN.lt; have qq := bN1.cell 2; have ff := bN1.free 2)
  have hNW : N ≤ W.heap.size := Nat.le_of_lt bN.lt
  have bM1 := bM.below hb1 bM.lt
  have hB1 : Below N w w1 := by rw [HN.out]; exact hB.trans (hb1.mono hB.size)
  have hN1 : N ≤ w1.heap.size := Nat.le_trans hNW hb1.size
  refine wp_world (fun W => (Blk W N #[.int .i64 x.w, .int .i64 x.h, .slice cb x.cs.length ccap, x.qu, x.tu] 26 ∧ Blk W (N + 1) #[.int .i64 0, .int .i64 0, .slice none 0 0, .slice none 0 0, .slice none 0 0] 26) ∧ CpC N 0 (.slice cb x.cs.length ccap) x.cs w W) ⟨⟨bN1.set 2 _, bM1.other _ _ (by show N + 1 ≠ N; omega)⟩, ?_⟩ ?_
  · refine ⟨(hR1.down hNW).other _ _ (hR1.typed bN1 (by decide)), fun i hi _ => HOK.out _ (List.getElem_mem hi), fun i hi hk => absurd hk (by omega), fun i hi hk => absurd hk (by omega), fun i j hi hj hk => absurd hk (by omega), HN.out, hB1.setCell (Nat.le_refl N) _, by simpa using hN1⟩
  clear bN bM hB q2 hR1 hb1 bN1 qq ff bM1 hB1 hcc hN1 hNW
  clear W w1
  rintro W ⟨⟨bN, bM⟩, hC⟩
  have q2 := bN.cell 2
  go_wp2
  clear q2
  go_loopw [11] (fun iv wr => ∃ k : Nat, k ≤ x.cs.length ∧ iv = .int .i64 k ∧ ∃ cs, cs.length = x.cs.length ∧ cs.map cd = x.cs.map cd ∧ (Blk wr N #[.int .i64 x.w, .int .i64 x.h, .slice cb cs.length ccap, x.qu, x.tu] 26 ∧ Blk wr (N + 1) #[.int .i64 0, .int .i64 0, .slice none 0 0, .slice none 0 0, .slice none 0 0] 26) ∧ CpC N k (.slice cb cs.length ccap) cs w wr) (fun iv _ => x.cs.length - (intOf iv).toNat)
  case atStart => exact ⟨0, Nat.zero_le _, rfl, x.cs, rfl, rfl, ⟨bN, bM⟩, hC⟩
  case round =>
    clear bN bM hC
    obtain ⟨k, hk, rfl, cs, hcl, hcd, ⟨bN, bM⟩, hC⟩ := hrel
    have HCL := Lib.hid hcl
    have HCD := Lib.hid hcd
    by_cases hlt : k < x.cs.length
    · have tl : decide (k < x.cs.length) = true := by simpa using hlt
      have hkc : k < cs.length := by rw [hcl]; exact hlt
      clear hcl hcd
      obtain ⟨g, cap', he, hlo, hgs, -⟩ := hC.row.cells (by omega)
      simp only [Value.slice.injEq] at he
      obtain ⟨rfl, -, rfl⟩ := he
      have j0 : (0 : Int) ≤ (k : Int) := by omega
      have j1 : (k : Int) < (cs.length : Int) := by omega
      have hok := hC.old k hkc (Nat.le_refl _)
      have hb3 : (cs[k]'hkc).bs.length ≤ 1000000 := by
        have e0 : cd (cs[k]'hkc) = cd (x.cs[k]'hlt) := by
          have := congrArg (fun l => l[k]?) HCD.out
          simpa [hkc, hlt] using this
        have e1 : (cs[k]'hkc).bs = (x.cs[k]'hlt).bs := congrArg (fun t => t.2.2.2) e0
        rw [e1]
        have := HF.out _ (List.getElem_mem hlt)
        omega
      obtain ⟨ub, ucap, hu, -, -⟩ := hok.ar.len
      have hcs : cs.length ≤ 1000000 := by rw [HCL.out]; omega
      have hadd : (⟨g, 0, none⟩ : Addr).add (k * 7) = ⟨g, k * 7, none⟩ := by unfold Addr.add; split <;> simp_all
      have c6 : ∀ W, CpC N k (.slice (some ⟨g, 0, none⟩) cs.length ccap) cs w W → W.cell? ⟨g, k * 7 + 4 + 2, none⟩ = some (.slice ub (cs[k]'hkc).bs.length ucap) := fun W hW => by
        obtain ⟨a', ha', -, -, -, -, -, -, c6⟩ := (hW.comps hcs).at hkc
        cases ha'
        rw [hadd, hu] at c6
        exact c6
      have hbc := fun W (hW : CpC N k (.slice (some ⟨g, 0, none⟩) cs.length ccap) cs w W) => blocks_clone (.slice ub (cs[k]'hkc).bs.length ucap) (cs[k]'hkc).bs.length (bcells (cs[k]'hkc).bs) hb3 W (by
        have := (hok.below (by rw [← hW.hN]; exact hW.hB)).ar
        rwa [hu] at this) (bcells_one _)
      have hGm : ∀ W W', ((Blk W N #[.int .i64 x.w, .int .i64 x.h, .slice (some ⟨g, 0, none⟩) cs.length ccap, x.qu, x.tu] 26 ∧ Blk W (N + 1) #[.int .i64 0, .int .i64 0, .slice none 0 0, .slice none 0 0, .slice none 0 0] 26) ∧ CpC N k (.slice (some ⟨g, 0, none⟩) cs.length ccap) cs w W) → Below W.heap.size W W' → ((Blk W' N #[.int .i64 x.w, .int .i64 x.h, .slice (some ⟨g, 0, none⟩) cs.length ccap, x.qu, x.tu] 26 ∧ Blk W' (N + 1) #[.int .i64 0, .int .i64 0, .slice none 0 0, .slice none 0 0, .slice none 0 0] 26) ∧ CpC N k (.slice (some ⟨g, 0, none⟩) cs.length ccap) cs w W') := fun W W' h hb => ⟨⟨h.1.1.below hb h.1.1.lt, h.1.2.below hb h.1.2.lt⟩, h.2.below hb⟩
      go_upto_region 5 with fail
      refine wp_region_mono [0, 1, 2, 3, 4, 5, 6, 7, 8, 9, 10, 11, 12, 13] [14] (fun W => (Blk W N #[.int .i64 x.w, .int .i64 x.h, .slice (some ⟨g, 0, none⟩) cs.length ccap, x.qu, x.tu] 26 ∧ Blk W (N + 1) #[.int .i64 0, .int .i64 0, .slice none 0 0, .slice none 0 0, .slice none 0 0] 26) ∧ CpC N k (.slice (some ⟨g, 0, none⟩) cs.length ccap) cs w W)
        (fun | 10 => some (sRel (shRow (cs[k]'hkc).bs.length) (fRow 66 64 (cs[k]'hkc).bs.length (bcells (cs[k]'hkc).bs))) | _ => none) (fun _ => []) (by kernel_rfl) (by kernel_rfl) (hGm _ _ ⟨⟨bN, bM⟩, hC⟩ (Below.refl _ _).drew) ?_ ?_
      · intro i s hs
        match i with
        | 10 => cases hs; exact fun _ _ => fRow_mono _ _ _ _ _
      simp only [pick, List.getD_cons_succ, List.getD_cons_zero, List.zip_cons_cons, List.zip_nil_right]
      (first | (refine mono_skip (by rfl) ?_; simp only [Act.put, List.setIfInBounds_toArray, List.set_cons_zero, List.set_cons_succ]) | (refine mono_pure (v := ?_) (by rfl) rfl ?_ ?_; rotate_left; (intro wS hS; go_simp; try with_reducible rfl); simp only [Act.put, List.setIfInBounds_toArray, List.set_cons_zero, List.set_cons_succ]))
      refine mono_pure (v := .slice (some ⟨g, 0, none⟩) cs.length ccap) (by rfl) rfl (fun w1 hG => by have cy : w1.cell? ⟨N, 2, none⟩ = some (.slice (some ⟨g, 0, none⟩) cs.length ccap) := hG.1.1.cell 2; go_simp; try with_reducible rfl) ?_
      simp only [Act.put, List.setIfInBounds_toArray, List.set_cons_zero, List.set_cons_succ]
      (first | (refine mono_skip (by rfl) ?_; simp only [Act.put, List.setIfInBounds_toArray, List.set_cons_zero, List.set_cons_succ]) | (refine mono_pure (v := ?_) (by rfl) rfl ?_ ?_; rotate_left; (intro wS hS; go_simp; try with_reducible rfl); simp only [Act.put, List.setIfInBounds_toArray, List.set_cons_zero, List.set_cons_succ]))
      (first | (refine mono_skip (by rfl) ?_; simp only [Act.put, List.setIfInBounds_toArray, List.set_cons_zero, List.set_cons_succ]) | (refine mono_pure (v := ?_) (by rfl) rfl ?_ ?_; rotate_left; (intro wS hS; go_simp; try with_reducible rfl); simp only [Act.put, List.setIfInBounds_toArray, List.set_cons_zero, List.set_cons_succ]))
      refine mono_pure (v := .slice (some ⟨g, 0, none⟩) cs.length ccap) (by rfl) rfl (fun w1 hG => by have cy : w1.cell? ⟨N, 2, none⟩ = some (.slice (some ⟨g, 0, none⟩) cs.length ccap) := hG.1.1.cell 2; go_simp; try with_reducible rfl) ?_
      simp only [Act.put, List.setIfInBounds_toArray, List.set_cons_zero, List.set_cons_succ]
      iterate 4 (first | (refine mono_skip (by rfl) ?_; simp only [Act.put, List.setIfInBounds_toArray, List.set_cons_zero, List.set_cons_succ]) | (refine mono_pure (v := ?_) (by rfl) rfl ?_ ?_; rotate_left; (intro wS hS; go_simp; try with_reducible rfl); simp only [Act.put, List.setIfInBounds_toArray, List.set_cons_zero, List.set_cons_succ]))
      refine mono_pure (v := .slice ub (cs[k]'hkc).bs.length ucap) (by rfl) rfl (fun w1 hG => by have cy := c6 w1 hG.2; go_simp; try with_reducible rfl) ?_
      simp only [Act.put, List.setIfInBounds_toArray, List.set_cons_zero, List.set_cons_succ]
      refine mono_rel (shRow (cs[k]'hkc).bs.length) (fRow 66 64 (cs[k]'hkc).bs.length (bcells (cs[k]'hkc).bs)) (by rfl) rfl hGm (by intro w hG; go_simp; first | done | exact ⟨rfl, rfl⟩) ⟨_, none, 0, rfl⟩ (fun w1 hG hH => ?_) (fun v3 hv3 => ?_)
      · refine (hbc w1 hG.2).mono ?_
        rintro e w2 ⟨v, rfl, hR, hb⟩
        obtain ⟨bv, cv, rfl⟩ := hR.len
        exact ⟨_, rfl, ⟨bv, cv, rfl⟩, hb, hR, fun g e => (hR.lt g e).2⟩
      obtain ⟨bv, cv, rfl⟩ := hv3
      simp only [Act.put, List.setIfInBounds_toArray, List.set_cons_zero, List.set_cons_succ]
      iterate 3 (first | (refine mono_skip (by rfl) ?_; simp only [Act.put, List.setIfInBounds_toArray, List.set_cons_zero, List.set_cons_succ]) | (refine mono_pure (v := ?_) (by rfl) rfl ?_ ?_; rotate_left; (intro wS hS; go_simp; try with_reducible rfl); simp only [Act.put, List.setIfInBounds_toArray, List.set_cons_zero, List.set_cons_succ]))
      refine mono_nil ?_
      rintro W5 ⟨⟨bN5, bM5⟩, hC5⟩ ⟨hbs, I, hI1, -⟩
      obtain ⟨i1, i2, i3, hRr, hRl⟩ := hI1 10 _ (upd_self _ _ _)
      have hNl : N ≤ wr.heap.size := Nat.le_of_lt bN.lt
      have hput := hC5.put hkc (.slice bv (cs[k]'hkc).bs.length cv) (Nat.le_trans hNl i1) hC i1 hRr
      obtain ⟨⟨a6, k6⟩, f6⟩ := hC5.row.spot (i := k * 7 + 6) (by omega)
      have htN : N ≠ g := fun e => hC5.row.typed bN5 (by decide) g rfl e.symm
      have htM : N + 1 ≠ g := fun e => hC5.row.typed bM5 (by decide) g rfl e.symm
      have bN6 := bN5.other ⟨g, k * 7 + 6, none⟩ (.slice bv (cs[k]'hkc).bs.length cv) htN
      have bM6 := bM5.other ⟨g, k * 7 + 6, none⟩ (.slice bv (cs[k]'hkc).bs.length cv) htM
      have hcd2 : (cs.set k (setU (cs[k]'hkc) (.slice bv (cs[k]'hkc).bs.length cv))).map cd = x.cs.map cd := by
        rw [← HCD.out]
        refine List.ext_getElem? fun i => ?_
        rw [List.getElem?_map, List.getElem?_map, List.getElem?_set]
        split
        · rename_i e; subst e; simp [hkc, cd, setU]
        · rfl
      have HCD2 := Lib.hid hcd2
      have HP := Lib.hid hput
      clear hcd2 hput hGm hI1 hC5 bN5 bM5 hC bN bM hbc c6 hok hRr hRl
      generalize (cs[k]'hkc).bs.length = z at *
      go_wp2
      refine ⟨⟨k + 1, by omega, by go_num, _, by rw [List.length_set]; exact HCL.out, HCD2.out, ⟨?_, bM6⟩, ?_⟩, by simp [intOf]; omega⟩
      · rw [List.length_set]; exact bN6
      · rw [List.length_set]; exact HP.out
    · obtain rfl : k = x.cs.length := by omega
      have tl : decide (x.cs.length < x.cs.length) = false := by simp
      have hqc2 := fun W (hW : CpC N x.cs.length (.slice cb cs.length ccap) cs w W) => hqc W (by rw [← hW.hN]; exact hW.hB)
      have htc2 := fun W (hW : CpC N x.cs.length (.slice cb cs.length ccap) cs w W) => htc W (by rw [← hW.hN]; exact hW.hB)
      have hGm : ∀ W W', ((Blk W N #[.int .i64 x.w, .int .i64 x.h, .slice cb cs.length ccap, x.qu, x.tu] 26 ∧ Blk W (N + 1) #[.int .i64 0, .int .i64 0, .slice none 0 0, .slice none 0 0, .slice none 0 0] 26) ∧ CpC N x.cs.length (.slice cb cs.length ccap) cs w W) → Below W.heap.size W W' → ((Blk W' N #[.int .i64 x.w, .int .i64 x.h, .slice cb cs.length ccap, x.qu, x.tu] 26 ∧ Blk W' (N + 1) #[.int .i64 0, .int .i64 0, .slice none 0 0, .slice none 0 0, .slice none 0 0] 26) ∧ CpC N x.cs.length (.slice cb cs.length ccap) cs w W') := fun W W' h hb => ⟨⟨h.1.1.below hb h.1.1.lt, h.1.2.below hb h.1.2.lt⟩, h.2.below hb⟩
      go_upto_region 7 with fail
      refine wp_region_mono [0, 1, 2, 3, 4, 5, 6] [7, 8, 9] (fun W => (Blk W N #[.int .i64 x.w, .int .i64 x.h, .slice cb cs.length ccap, x.qu, x.tu] 26 ∧ Blk W (N + 1) #[.int .i64 0, .int .i64 0, .slice none 0 0, .slice none 0 0, .slice none 0 0] 26) ∧ CpC N x.cs.length (.slice cb cs.length ccap) cs w W)
        (fun | 2 => some (sRel (shRow x.qs.length) (fRow 40 65 x.qs.length (x.qs.map QuantArg.cells).flatten)) | 5 => some (sRel (shRow x.ts.length) (fRow 70 2 x.ts.length (x.ts.map TagArg.cells).flatten)) | _ => none) (fun _ => []) (by kernel_rfl) (by kernel_rfl) (hGm _ _ ⟨⟨bN, bM⟩, hC⟩ (Below.refl _ _).drew) ?_ ?_
      · intro i s hs
        match i with
        | 2 => cases hs; exact fun _ _ => fRow_mono _ _ _ _ _
        | 5 => cases hs; exact fun _ _ => fRow_mono _ _ _ _ _
      simp only [pick, List.getD_cons_succ, List.getD_cons_zero, List.zip_cons_cons, List.zip_nil_right]
      (first | (refine mono_skip (by rfl) ?_; simp only [Act.put, List.setIfInBounds_toArray, List.set_cons_zero, List.set_cons_succ]) | (refine mono_pure (v := ?_) (by rfl) rfl ?_ ?_; rotate_left; (intro wS hS; go_simp; try with_reducible rfl); simp only [Act.put, List.setIfInBounds_toArray, List.set_cons_zero, List.set_cons_succ]))
      refine mono_pure (v := x.qu) (by rfl) rfl (fun w1 hG => by have cy : w1.cell? ⟨N, 3, none⟩ = some x.qu := hG.1.1.cell 3; go_simp; try with_reducible rfl) ?_
      simp only [Act.put, List.setIfInBounds_toArray, List.set_cons_zero, List.set_cons_succ]
      refine mono_rel (shRow x.qs.length) (fRow 40 65 x.qs.length (x.qs.map QuantArg.cells).flatten) (by rfl) rfl hGm (by intro w hG; go_simp; first | done | exact ⟨rfl, rfl⟩) ⟨_, none, 0, rfl⟩ (fun w1 hG hH => ?_) (fun v3 hv3 => ?_)
      · refine (hqc2 w1 hG.2).mono ?_
        rintro e w2 ⟨v, rfl, hR, hb⟩
        obtain ⟨bv, cv, rfl⟩ := hR.len
        exact ⟨_, rfl, ⟨bv, cv, rfl⟩, hb, hR, fun g e => (hR.lt g e).2⟩
      obtain ⟨qb, qcap, rfl⟩ := hv3
      simp only [Act.put, List.setIfInBounds_toArray, List.set_cons_zero, List.set_cons_succ]
      (first | (refine mono_skip (by rfl) ?_; simp only [Act.put, List.setIfInBounds_toArray, List.set_cons_zero, List.set_cons_succ]) | (refine mono_pure (v := ?_) (by rfl) rfl ?_ ?_; rotate_left; (intro wS hS; go_simp; try with_reducible rfl); simp only [Act.put, List.setIfInBounds_toArray, List.set_cons_zero, List.set_cons_succ]))
      refine mono_pure (v := x.tu) (by rfl) rfl (fun w1 hG => by have cy : w1.cell? ⟨N, 4, none⟩ = some x.tu := hG.1.1.cell 4; go_simp; try with_reducible rfl) ?_
      simp only [Act.put, List.setIfInBounds_toArray, List.set_cons_zero, List.set_cons_succ]
      refine mono_rel (shRow x.ts.length) (fRow 70 2 x.ts.length (x.ts.map TagArg.cells).flatten) (by rfl) rfl hGm (by intro w hG; go_simp; first | done | exact ⟨rfl, rfl⟩) ⟨_, none, 0, rfl⟩ (fun w1 hG hH => ?_) (fun v4 hv4 => ?_)
      · refine (htc2 w1 hG.2).mono ?_
        rintro e w2 ⟨v, rfl, hR, hb⟩
        obtain ⟨bv, cv, rfl⟩ := hR.len
        exact ⟨_, rfl, ⟨bv, cv, rfl⟩, hb, hR, fun g e => (hR.lt g e).2⟩
      obtain ⟨tb, tcap, rfl⟩ := hv4
      simp only [Act.put, List.setIfInBounds_toArray, List.set_cons_zero, List.set_cons_succ]
      (first | (refine mono_skip (by rfl) ?_; simp only [Act.put, List.setIfInBounds_toArray, List.set_cons_zero, List.set_cons_succ]) | (refine mono_pure (v := ?_) (by rfl) rfl ?_ ?_; rotate_left; (intro wS hS; go_simp; try with_reducible rfl); simp only [Act.put, List.setIfInBounds_toArray, List.set_cons_zero, List.set_cons_succ]))
      refine mono_nil ?_
      rintro W5 ⟨⟨bN5, bM5⟩, hC5⟩ ⟨hbs, I, hI1, -⟩
      obtain ⟨i1, i2, i3, hQr, -⟩ := hI1 2 _ rfl
      obtain ⟨k1, k2, k3, hTr, -⟩ := hI1 5 _ (upd_self _ _ _)
      have hNl : N ≤ wr.heap.size := Nat.le_of_lt bN.lt
      replace hQr := hQr.down (Nat.le_trans hNl i1)
      replace hTr := hTr.down (Nat.le_trans hNl k1)
      have m3 := bN5.cell 3
      have f3 := bN5.free 3
      have bN6 := bN5.set 3 (.slice qb x.qs.length qcap)
      have m4 := bN6.cell 4
      have f4 := bN6.free 4
      have bN7 := bN6.set 4 (.slice tb x.ts.length tcap)
      have bM7 := (bM5.other ⟨N, 3, none⟩ (.slice qb x.qs.length qcap) (by show N + 1 ≠ N; omega)).other ⟨N, 4, none⟩ (.slice tb x.ts.length tcap) (by show N + 1 ≠ N; omega)
      have hC7 : CpC N x.cs.length (.slice cb cs.length ccap) cs w ((W5.setCell ⟨N, 3, none⟩ (.slice qb x.qs.length qcap)).setCell ⟨N, 4, none⟩ (.slice tb x.ts.length tcap)) := by
        refine hC5.same (fun g hg => ?_) ((hC5.hB.setCell (Nat.le_refl N) _).setCell (Nat.le_refl N) _) (by simpa using hC5.hW)
        have hgn : g ≠ N := by
          intro e
          subst e
          obtain ⟨cur, hb | hb⟩ := hg
          · have := bN5.symm.trans hb; simp at this
          · have := bN5.symm.trans hb; simp at this
        exact (heap_setCell_other _ _ _ _ hgn).trans (heap_setCell_other _ _ _ _ hgn)
      have hQ7 := (hQr.other ⟨N, 3, none⟩ (.slice qb x.qs.length qcap) (hQr.typed bN5 (by decide))).other ⟨N, 4, none⟩ (.slice tb x.ts.length tcap) (hQr.typed bN5 (by decide))
      have hT7 := (hTr.other ⟨N, 3, none⟩ (.slice qb x.qs.length qcap) (hTr.typed bN5 (by decide))).other ⟨N, 4, none⟩ (.slice tb x.ts.length tcap) (hTr.typed bN5 (by decide))
      clear hGm hI1 hQr hTr hC5 bN5 bM5 bN6 hC bN bM hqc2 htc2 hqc htc
      go_upto_region 8 with fail
      refine wp_world (fun W => (Blk W N #[.int .i64 x.w, .int .i64 x.h, .slice cb cs.length ccap, .slice qb x.qs.length qcap, .slice tb x.ts.length tcap] 26 ∧ Blk W (N + 1) #[.int .i64 0, .int .i64 0, .slice none 0 0, .slice none 0 0, .slice none 0 0] 26) ∧ CpC N x.cs.length (.slice cb cs.length ccap) cs w W ∧ Row W N 40 65 (.slice qb x.qs.length qcap) x.qs.length (x.qs.map QuantArg.cells).flatten ∧ Row W N 70 2 (.slice tb x.ts.length tcap) x.ts.length (x.ts.map TagArg.cells).flatten) ⟨⟨bN7, bM7⟩, hC7, hQ7, hT7⟩ ?_
      clear bN7 bM7 hC7 hQ7 hT7 m3 m4 f3 f4
      rintro W8 ⟨⟨bN, bM⟩, hC, hQ, hT⟩
      go_wp2_with (first | (refine wpList_load_row rfl 26 _ rfl N rfl 26 _ _ _ bN Tryz.underlying26 rfl (by kernel_rfl) ?_) | (refine wpList_store_row rfl 26 _ _ rfl (N + 1) _ rfl rfl 26 _ bM (by kernel_rfl) rfl (by simp [Value.oneCell']) ?_))
      simp only [Act.put, List.setIfInBounds_toArray, List.set_cons_zero, List.set_cons_succ]
      refine bodyPost_ret (results_cell_row rfl _ _ (N + 1) 26 _ (0, 0) _ rfl (bM.row _) Tryz.underlying26 rfl (by kernel_rfl)) rfl ?_
      refine ⟨⟨x.w, x.h, .slice cb cs.length ccap, .slice qb x.qs.length qcap, .slice tb x.ts.length tcap, cs, x.qs, x.ts⟩, rfl, ⟨rfl, rfl, HCD.out, rfl, rfl⟩, ⟨?_, hQ.same fun g e => setRow_other _ _ _ _ (hQ.typed bM (by decide) g e), hT.same fun g e => setRow_other _ _ _ _ (hT.typed bM (by decide) g e), HQO.out, HTO.out⟩⟩
      show CpC N cs.length (.slice cb cs.length ccap) cs w _
      rw [HCL.out]
      have hC' := hC
      rw [HCL.out] at hC'
      refine hC'.same (fun g hg => ?_) (Below.setRow hC.hB (Nat.le_succ N) _) (by simpa using hC.hW)
      have hgn : g ≠ N + 1 := by
        intro e
        subst e
        obtain ⟨cur, hb | hb⟩ := hg
        · have := bM.symm.trans hb; simp at this
        · have := bM.symm.trans hb; simp at this
      exact setRow_other _ _ _ _ hgn
end Go.Proofs.YtgmhhocpdfdplaaGreat
/- A copy in plain words: right if the image is; changed, it is another one. -/
namespace Go.Proofs.YtgmhhocpdfdplaaGreat
open Go.RowKit
set_option maxRecDepth 100000
def stripU (c : CompArg) : CompArg := setU c (.slice none 0 0)
theorem strip_cd {a b : CompArg} (h : cd a = cd b) : stripU a = stripU b := by
  obtain ⟨a0, a1, a2, a3, a4, a5, a6, a7⟩ := a
  obtain ⟨b0, b1, b2, b3, b4, b5, b6, b7⟩ := b
  simp only [cd, Prod.mk.injEq] at h
  obtain ⟨⟨rfl, rfl, rfl, rfl⟩, rfl, rfl, rfl⟩ := h
  rfl
theorem strip_map {xs ys : List CompArg} (h : xs.map cd = ys.map cd) : xs.map stripU = ys.map stripU := by
  refine List.ext_getElem? fun i => ?_
  have hi := congrArg (fun l => l[i]?) h
  simp only [List.getElem?_map] at hi ⊢
  cases hx : xs[i]? with
  | none => cases hy : ys[i]? with
    | none => rfl
    | some b => rw [hx, hy] at hi; cases hi
  | some a => cases hy : ys[i]? with
    | none => rw [hx, hy] at hi; cases hi
    | some b =>
      rw [hx, hy] at hi
      simp only [Option.map_some, Option.some.injEq] at hi ⊢
      exact strip_cd hi
theorem getD_strip (cs : List CompArg) (k : Nat) : (cs.map stripU).getD k noComp = stripU (cs.getD k noComp) := by
  simp only [List.getD_eq_getElem?_getD, List.getElem?_map]
  cases cs[k]? <;> rfl
def stripI (x : ImgArg) : ImgArg := { x with cs := x.cs.map stripU }
theorem errL_strip (x : ImgArg) : errL (stripI x) = errL x := by
  have hp : psOf (x.cs.map stripU) = psOf x.cs := by simp [psOf, stripU, setU]
  have e1 : frE (stripI x) = frE x := by unfold frE stripI; simp only; rw [hp]
  have e0 : frG (stripI x) = frG x := by unfold frG stripI; simp only; rw [hp]
  have e2 : compsE (stripI x).cs = compsE x.cs := by
    unfold compsE compE stripI
    simp only [getD_strip, List.length_map]
    rfl
  have eu : ∀ y, usedQ (x.cs.map stripU) y = usedQ x.cs y := fun y => by
    unfold usedQ
    simp only [getD_strip, List.length_map]
    rfl
  have e3 : tablesE (stripI x) = tablesE x := by
    unfold tablesE quantsE compsTE quantE compTE stripI
    simp only [getD_strip, List.length_map, eu]
    rfl
  have e4 : planesE (stripI x) = planesE x := by
    unfold planesE
    rw [e0]
    unfold planeE stripI
    simp only [getD_strip, List.length_map]
    rfl
  have e5 : blocksE (stripI x).cs = blocksE x.cs := by
    have hn : (⟨0, 0, 0, 0, 0, 0, .slice none 0 0, []⟩ : CompArg) = noComp := rfl
    unfold blocksE stripI
    rw [hn]
    simp only [getD_strip, List.length_map]
    rfl
  unfold errL
  rw [e1, e2, e3, e4, e5]
  rfl
theorem SameD.err {x y : ImgArg} (h : SameD x y) : imgE y = imgE x := by
  have e : errL y = errL x := by
    rw [← errL_strip y, ← errL_strip x]
    obtain ⟨h1, h2, h3, h4, h5⟩ := h
    obtain ⟨yw, yh, ycu, yqu, ytu, ycs, yqs, yts⟩ := y
    obtain ⟨xw, xh, xcu, xqu, xtu, xcs, xqs, xts⟩ := x
    simp only at h1 h2 h3 h4 h5
    subst h1 h2 h4 h5
    unfold stripI
    simp only
    rw [strip_map h3]
    rfl
  unfold imgE
  rw [e]
theorem SameD.same {x y : ImgArg} (h : SameD x y) : sameB y x = true := by
  unfold sameB
  rw [h.w, h.h, h.cs, h.qs, h.ts]
  simp
theorem SameD.len {x y : ImgArg} (h : SameD x y) : y.cs.length = x.cs.length := by simpa using congrArg List.length h.cs
theorem SameD.at {x y : ImgArg} (h : SameD x y) {i : Nat} (hi : i < y.cs.length) (hi' : i < x.cs.length) : cd (y.cs[i]'hi) = cd (x.cs[i]'hi') := by
  have := congrArg (fun l => l[i]?) h.cs
  simpa [hi, hi'] using this
theorem SameD.few {x y : ImgArg} (h : SameD x y) (hf : FewOk x) : FewOk y := by
  refine ⟨by rw [h.len]; exact hf.c20, by rw [h.qs]; exact hf.q20, by rw [h.ts]; exact hf.t100, fun c hc => ?_, by rw [h.ts]; exact hf.t140⟩
  obtain ⟨i, hi, rfl⟩ := List.getElem_of_mem hc
  have hi' : i < x.cs.length := by rw [← h.len]; exact hi
  have e : (y.cs[i]'hi).bs = (x.cs[i]'hi').bs := congrArg (fun t => t.2.2.2) (h.at hi hi')
  rw [e]
  exact hf.b300 _ (List.getElem_mem hi')
theorem OwnI.img {N : Nat} {x : ImgArg} {w W : World} (h : OwnI N x w W) (hl : x.cs.length ≤ 1000000) (hq : x.qs.length ≤ 1000000) (ht : x.ts.length ≤ 1000000) (h1 : (Lit.int .i64 x.w).wf = true) (h2 : (Lit.int .i64 x.h).wf = true) : IsImg W x.val x :=
  ⟨rfl, h1, h2, h.c.comps hl, ⟨Ar.elems h.q.ar (fun c hc => by obtain ⟨q, hq, rfl⟩ := List.mem_map.1 hc; simp [QuantArg.cells, (h.qok q hq).l64]) (by simp) (by simp only [maxLen]; omega), h.qok⟩,
    ⟨Ar.elems h.t.ar (fun c hc => by obtain ⟨p, _, rfl⟩ := List.mem_map.1 hc; rfl) (by simp) (by simp only [maxLen]; omega), h.tok⟩⟩
theorem OwnI.below {N : Nat} {x : ImgArg} {w W W' : World} (h : OwnI N x w W) (hb : Below W.heap.size W W') : OwnI N x w W' :=
  ⟨h.c.below hb, h.q.grow hb, h.t.grow hb, h.qok, h.tok⟩
/-- A block's number changed. -/
def setB (c : CompArg) (k j : Nat) (z : Int) : CompArg := ⟨c.id, c.h, c.v, c.q, c.c, c.r, c.u, c.bs.set k ((c.bs.getD k []).set j z)⟩
def setId (c : CompArg) (z : Int) : CompArg := ⟨z, c.h, c.v, c.q, c.c, c.r, c.u, c.bs⟩
theorem bcells_set1 {bs : List (List Int)} (h : Right64 bs) {k j : Nat} (hk : k < bs.length) (hj : j < 64) (z : Int) : (bcells bs).set (k * 64 + j) (.int .i16 z) = bcells (bs.set k ((bs.getD k []).set j z)) := by
  have hb : bs.getD k [] = bs[k]'hk := by simp [List.getD_eq_getElem?_getD, hk]
  have hl : (bs[k]'hk).length = 64 := h _ (List.getElem_mem hk)
  rw [bcells_set h k _ hk, hb]
  have e1 : bcells bs = (bcells bs).take (k * 64) ++ (bs[k]'hk).map (Value.int .i16) ++ (bcells bs).drop (k * 64 + 64) := by
    have := bcells_set h k (bs[k]'hk) hk
    rw [← this, List.set_getElem_self]
  have hlen : (bcells bs).length = bs.length * 64 := bcells_len h
  have ht : ((bcells bs).take (k * 64)).length = k * 64 := by rw [List.length_take, hlen, Nat.min_eq_left (by omega)]
  conv => lhs; rw [e1]
  rw [List.append_assoc, List.set_append_right _ _ (by omega), ht, show k * 64 + j - k * 64 = j by omega, List.set_append_left _ _ (by simp [hl, hj]), List.map_set, List.append_assoc]
end Go.Proofs.YtgmhhocpdfdplaaGreat
/- An image whose rows are the call's own: planes put in. -/
namespace Go.Proofs.YtgmhhocpdfdplaaGreat
open Go.RowKit
set_option maxRecDepth 100000
/-- An image of its own: rows of its own, laid since w. -/
structure OwnL (N : Nat) (x : ImgArg) (w W : World) : Prop where
  row : Row W N 48 7 x.cu x.cs.length (x.cs.map CompArg.cells).flatten
  pl : ∀ c ∈ x.cs, Row W N 66 64 c.u c.bs.length (bcells c.bs) ∧ ∀ W', Ar W' 64 c.u c.bs.length (bcells c.bs) → c.Ok W'
  q : Row W N 40 65 x.qu x.qs.length (x.qs.map QuantArg.cells).flatten
  t : Row W N 70 2 x.tu x.ts.length (x.ts.map TagArg.cells).flatten
  qok : ∀ q ∈ x.qs, q.Ok
  tok : ∀ t ∈ x.ts, t.Ok
  hN : N = w.heap.size
  hB : Below N w W
  hW : N ≤ W.heap.size
theorem OwnI.ownL {N : Nat} {x : ImgArg} {w W : World} (h : OwnI N x w W) : OwnL N x w W :=
  ⟨h.c.row, fun c hc => by obtain ⟨i, hi, rfl⟩ := List.getElem_of_mem hc; exact ⟨h.c.own i hi hi, h.c.ok i hi hi⟩, h.q, h.t, h.qok, h.tok, h.c.hN, h.c.hB, h.c.hW⟩
theorem OwnL.below {N : Nat} {x : ImgArg} {w W W' : World} (h : OwnL N x w W) (hb : Below W.heap.size W W') : OwnL N x w W' :=
  ⟨h.row.grow hb, fun c hc => ⟨(h.pl c hc).1.grow hb, (h.pl c hc).2⟩, h.q.grow hb, h.t.grow hb, h.qok, h.tok, h.hN, h.hB.trans (hb.mono h.hW), Nat.le_trans h.hW hb.size⟩
theorem OwnL.comps {N : Nat} {x : ImgArg} {w W : World} (h : OwnL N x w W) (hl : x.cs.length ≤ 1000000) : IsComps W x.cu x.cs :=
  ⟨Ar.elems h.row.ar (fun c hc => by obtain ⟨p, _, rfl⟩ := List.mem_map.1 hc; rfl) (by simp) (by simp only [maxLen]; omega), fun c hc => (h.pl c hc).2 W (h.pl c hc).1.ar⟩
theorem OwnL.img {N : Nat} {x : ImgArg} {w W : World} (h : OwnL N x w W) (hf : FewOk x) (h1 : (Lit.int .i64 x.w).wf = true) (h2 : (Lit.int .i64 x.h).wf = true) : IsImg W x.val x := by
  have c20 := hf.c20
  have q20 := hf.q20
  have t100 := hf.t100
  exact ⟨rfl, h1, h2, h.comps (by omega), ⟨Ar.elems h.q.ar (fun c hc => by obtain ⟨q, hq, rfl⟩ := List.mem_map.1 hc; simp [QuantArg.cells, (h.qok q hq).l64]) (by simp) (by simp only [maxLen]; omega), h.qok⟩,
    ⟨Ar.elems h.t.ar (fun c hc => by obtain ⟨p, _, rfl⟩ := List.mem_map.1 hc; rfl) (by simp) (by simp only [maxLen]; omega), h.tok⟩⟩
theorem OwnL.imgRow {N : Nat} {x : ImgArg} {w W : World} (h : OwnL N x w W) (hf : FewOk x) (h1 : (Lit.int .i64 x.w).wf = true) (h2 : (Lit.int .i64 x.h).wf = true) (k : Nat) (hk : k < N) (ds : Array Value) : IsImg (W.setRow k ds) x.val x := by
  have key : ∀ {e : TypeId} {size : Nat} {v : Value} {n : Nat} {xs : List Value}, Row W N e size v n xs → Row (W.setRow k ds) N e size v n xs := fun hr => hr.same fun g e => setRow_other W k g ds (by have := (hr.lt g e).1; omega)
  have c20 := hf.c20
  have q20 := hf.q20
  have t100 := hf.t100
  exact ⟨rfl, h1, h2, ⟨Ar.elems (key h.row).ar (fun c hc => by obtain ⟨p, _, rfl⟩ := List.mem_map.1 hc; rfl) (by simp) (by simp only [maxLen]; omega), fun c hc => (h.pl c hc).2 _ (key (h.pl c hc).1).ar⟩,
    ⟨Ar.elems (key h.q).ar (fun c hc => by obtain ⟨q, hq, rfl⟩ := List.mem_map.1 hc; simp [QuantArg.cells, (h.qok q hq).l64]) (by simp) (by simp only [maxLen]; omega), h.qok⟩,
    ⟨Ar.elems (key h.t).ar (fun c hc => by obtain ⟨p, _, rfl⟩ := List.mem_map.1 hc; rfl) (by simp) (by simp only [maxLen]; omega), h.tok⟩⟩
/-- A block of a type that no row has is apart from the components' cells. -/
theorem OwnL.apart {N g cap : Nat} {x : ImgArg} {w W : World} (h : OwnL N x w W) (hc : x.cu = .slice (some ⟨g, 0, none⟩) x.cs.length cap) {b : Nat} {cs : Array Value} {t : TypeId} (hb : Blk W b cs t) (ht : t ≠ 48) : b ≠ g :=
  fun e => h.row.typed hb ht g (by rw [hc]; rfl) e.symm
def setP (c : CompArg) (cc cr : Int) (u : Value) (l : List (List Int)) : CompArg := ⟨c.id, c.h, c.v, c.q, cc, cr, u, l⟩
def putW (W : World) (g k : Nat) (cc cr : Int) (v : Value) : World := ((W.setCell ⟨g, k * 7 + 4, none⟩ (.int .i64 cc)).setCell ⟨g, k * 7 + 5, none⟩ (.int .i64 cr)).setCell ⟨g, k * 7 + 6, none⟩ v
theorem Blk.putW {W : World} {b g k : Nat} {cs : Array Value} {t : TypeId} (h : Blk W b cs t) (hb : b ≠ g) (cc cr : Int) (v : Value) : Blk (putW W g k cc cr v) b cs t := ((h.other _ _ hb).other _ _ hb).other _ _ hb
theorem OwnL.putP {N g cap k : Nat} {x : ImgArg} {w W : World} (h : OwnL N x w W) (hc : x.cu = .slice (some ⟨g, 0, none⟩) x.cs.length cap) (hk : k < x.cs.length) (cc cr : Int) (l : List (List Int)) (v : Value)
    (w1 : (Lit.int .i64 cc).wf = true) (w2 : (Lit.int .i64 cr).wf = true) (h64 : Right64 l) (hw : ∀ b ∈ l, ∀ y ∈ b, (Lit.int .i16 y).wf = true) (hv : Row W N 66 64 v l.length (bcells l)) :
    OwnL N { x with cs := x.cs.set k (setP (x.cs[k]'hk) cc cr v l) } w (putW W g k cc cr v) := by
  have hlo := h.row.lt g (by rw [hc]; rfl)
  have nor : ∀ {lo : Nat} {e : TypeId} {size : Nat} {u : Value} {n : Nat} {xs : List Value}, e ≠ 48 → Row W lo e size u n xs → Row (putW W g k cc cr v) lo e size u n xs := fun {lo e size u n xs} he hr => by
    have hne : ∀ b, u.ownBlock = some b → b ≠ g := fun b hb => by
      rcases hr.2 with ⟨h0, _⟩ | ⟨g', cap', cur, h0, _, h3, _⟩
      · rw [h0] at hb; cases hb
      · rw [h0] at hb
        obtain rfl : g' = b := Option.some.inj hb
        exact h.apart hc h3 he
    exact ((hr.other _ _ hne).other _ _ hne).other _ _ hne
  have hrow := h.row
  rw [hc] at hrow
  have hkl : k * 7 + 7 ≤ x.cs.length * 7 := by omega
  have r3 := ((hrow.set (k * 7 + 4) (by omega) (.int .i64 cc)).set (k * 7 + 5) (by omega) (.int .i64 cr)).set (k * 7 + 6) (by omega) v
  rw [flat_set hk (.int .i64 cc) (.int .i64 cr) v (setP (x.cs[k]'hk) cc cr v l) rfl] at r3
  refine ⟨?_, ?_, nor (by decide) h.q, nor (by decide) h.t, h.qok, h.tok, h.hN, ((h.hB.setCell hlo.1 _).setCell hlo.1 _).setCell hlo.1 _, by unfold putW; simpa using h.hW⟩
  · show Row _ N _ 7 x.cu (x.cs.set k _).length _
    rw [hc, List.length_set]
    exact r3
  · intro c hcm
    rcases List.mem_or_eq_of_mem_set hcm with h1 | rfl
    · exact ⟨nor (by decide) (h.pl c h1).1, (h.pl c h1).2⟩
    · refine ⟨nor (by decide) hv, fun W' ha => ?_⟩
      have hx := (h.pl _ (List.getElem_mem hk)).2 W (h.pl _ (List.getElem_mem hk)).1.ar
      exact ⟨ha, h64, hw, hx.wid, hx.wh, hx.wv, hx.wq, w1, w2⟩
theorem Row.sameT {w w' : World} {lo : Nat} {e : TypeId} {size n : Nat} {v : Value} {xs : List Value} (h : Row w lo e size v n xs) (hb : ∀ g cs, Blk w g cs e → lo ≤ g → w'.heap[g]? = w.heap[g]?) : Row w' lo e size v n xs :=
  h.same fun g hg => by
    have hlo := (h.lt g hg).1
    rcases h.2 with ⟨h0, _⟩ | ⟨g', cap', cur, h0, _, h3, _⟩
    · rw [h0] at hg; cases hg
    · rw [h0] at hg
      obtain rfl : g' = g := Option.some.inj hg
      exact hb _ _ h3 hlo
/-- An own image where what has the types of its rows lies as it lay. -/
theorem OwnL.at' {N : Nat} {x : ImgArg} {w W : World} (h : OwnL N x w W) (W' : World) (hb : ∀ g cs t, Blk W g cs t → (t = 48 ∨ t = 66 ∨ t = 40 ∨ t = 70) → N ≤ g → W'.heap[g]? = W.heap[g]?) (w0 : World) (N0 : Nat) (hN0 : N0 = w0.heap.size) (hN : N0 ≤ N) (hB : Below N0 w0 W') (hW : N0 ≤ W'.heap.size) : OwnL N0 x w0 W' :=
  ⟨(h.row.sameT fun g cs hg hl => hb g cs _ hg (.inl rfl) hl).down hN, fun c hc => ⟨((h.pl c hc).1.sameT fun g cs hg hl => hb g cs _ hg (.inr (.inl rfl)) hl).down hN, (h.pl c hc).2⟩, (h.q.sameT fun g cs hg hl => hb g cs _ hg (.inr (.inr (.inl rfl))) hl).down hN,
    (h.t.sameT fun g cs hg hl => hb g cs _ hg (.inr (.inr (.inr rfl))) hl).down hN, h.qok, h.tok, hN0, hB, hW⟩
/-- A row of a block is written that is none of the image's. -/
theorem OwnL.setRow {N : Nat} {x : ImgArg} {w W : World} (h : OwnL N x w W) (k : Nat) (hk : k < N) (ds : Array Value) (w0 : World) (h0 : w0.heap.size ≤ k) (hB : Below w0.heap.size w0 W) : OwnL w0.heap.size x w0 (W.setRow k ds) :=
  h.at' _ (fun g _ _ _ _ hl => setRow_other W k g ds (by omega)) w0 _ rfl (by omega) (Below.setRow hB h0 _) (by simpa using hB.size)
/-- An image whose rows are blocks of their own types. -/
structure OwnT (x : ImgArg) (W : World) : Prop where
  row : Row W 0 48 7 x.cu x.cs.length (x.cs.map CompArg.cells).flatten
  pl : ∀ c ∈ x.cs, Row W 0 66 64 c.u c.bs.length (bcells c.bs) ∧ ∀ W', Ar W' 64 c.u c.bs.length (bcells c.bs) → c.Ok W'
  q : Row W 0 40 65 x.qu x.qs.length (x.qs.map QuantArg.cells).flatten
  t : Row W 0 70 2 x.tu x.ts.length (x.ts.map TagArg.cells).flatten
  qok : ∀ q ∈ x.qs, q.Ok
  tok : ∀ t ∈ x.ts, t.Ok
theorem OwnL.ownT {N : Nat} {x : ImgArg} {w W : World} (h : OwnL N x w W) : OwnT x W := ⟨h.row.down (Nat.zero_le _), fun c hc => ⟨(h.pl c hc).1.down (Nat.zero_le _), (h.pl c hc).2⟩, h.q.down (Nat.zero_le _), h.t.down (Nat.zero_le _), h.qok, h.tok⟩
theorem OwnT.below {x : ImgArg} {W W' : World} (h : OwnT x W) (hb : Below W.heap.size W W') : OwnT x W' := ⟨h.row.grow hb, fun c hc => ⟨(h.pl c hc).1.grow hb, (h.pl c hc).2⟩, h.q.grow hb, h.t.grow hb, h.qok, h.tok⟩
theorem OwnT.at' {x : ImgArg} {W : World} (h : OwnT x W) (W' : World) (hb : ∀ g cs t, Blk W g cs t → (t = 48 ∨ t = 66 ∨ t = 40 ∨ t = 70) → W'.heap[g]? = W.heap[g]?) : OwnT x W' :=
  ⟨h.row.sameT fun g cs hg _ => hb g cs _ hg (.inl rfl), fun c hc => ⟨(h.pl c hc).1.sameT fun g cs hg _ => hb g cs _ hg (.inr (.inl rfl)), (h.pl c hc).2⟩, h.q.sameT fun g cs hg _ => hb g cs _ hg (.inr (.inr (.inl rfl))), h.t.sameT fun g cs hg _ => hb g cs _ hg (.inr (.inr (.inr rfl))), h.qok, h.tok⟩
theorem img_ne {t : TypeId} (h : t = 48 ∨ t = 66 ∨ t = 40 ∨ t = 70) : t ≠ 26 ∧ True := by
  rcases h with rfl | rfl | rfl | rfl <;> decide
theorem OwnT.setRow {x : ImgArg} {W : World} (h : OwnT x W) {k : Nat} {cs : Array Value} (hk : Blk W k cs 26) (ds : Array Value) : OwnT x (W.setRow k ds) :=
  h.at' _ fun g cs' t hg ht => setRow_other W k g ds (by
    rintro rfl
    have := hg.symm.trans hk
    simp at this
    exact (img_ne ht).1 this.2)
theorem OwnT.img {x : ImgArg} {W : World} (h : OwnT x W) (hf : FewOk x) (h1 : (Lit.int .i64 x.w).wf = true) (h2 : (Lit.int .i64 x.h).wf = true) : IsImg W x.val x := by
  have c20 := hf.c20
  have q20 := hf.q20
  have t100 := hf.t100
  exact ⟨rfl, h1, h2, ⟨Ar.elems h.row.ar (fun c hc => by obtain ⟨p, _, rfl⟩ := List.mem_map.1 hc; rfl) (by simp) (by simp only [maxLen]; omega), fun c hc => (h.pl c hc).2 W (h.pl c hc).1.ar⟩,
    ⟨Ar.elems h.q.ar (fun c hc => by obtain ⟨q, hq, rfl⟩ := List.mem_map.1 hc; simp [QuantArg.cells, (h.qok q hq).l64]) (by simp) (by simp only [maxLen]; omega), h.qok⟩,
    ⟨Ar.elems h.t.ar (fun c hc => by obtain ⟨p, _, rfl⟩ := List.mem_map.1 hc; rfl) (by simp) (by simp only [maxLen]; omega), h.tok⟩⟩
end Go.Proofs.YtgmhhocpdfdplaaGreat
