/- Both pasts' calls, as the law of all calls in every order asks of them. -/
import Derived.Test.YtcdfamllamjpeaaPastAllLaw
import Derived.Test.YtcdfamllamjpeaaRPast2
import Derived.Test.YtcdfamllamjpeaaPast5
import Derived.Test.YtcdfamllamjpeaaDet1
import Derived.Test.YtcdfamllamjpeaaOpenEl
namespace Go.Proofs.Ytcdfamllamjpeaa
open Go.RowKit Go.ChangeShapes Go.ChangeAt Go.WideShapes
set_option maxRecDepth 100000
theorem law_of (d : Int) (x : Pa.Ent) (w : World) : Calls Try.prog 19 #[.agg #[.int .u8 d, .int .i64 x.1, .int .i64 x.2.1, .int .i64 x.2.2]] w fun e w' => e = .returned (Pa.val x) ∧ Below w.heap.size w w' := by
  obtain ⟨N, hN⟩ : ∃ N, N = w.heap.size := ⟨_, rfl⟩
  have HN := Lib.hid hN
  rw [← hN]
  clear hN
  obtain ⟨x1, x2, x3⟩ := x
  simp only [Pa.val]
  go_enter Try.func19, Try.ntmps19
  go_upto_region 1 with fail
  refine wp_world (fun W => Blk W N #[.int .u8 d, .int .i64 x1, .int .i64 x2, .int .i64 x3] 54 ∧ Blk W (N + 1) #[.int .i64 0, .int .i64 0, .int .i64 0] 29 ∧ Below N w W) ⟨(Blk.new' _ _ _ HN.out).alloc _, Blk.new' _ _ _ (by rw [HN.out]; simp), ((Below.refl _ _).alloc (by rw [HN.out]; exact Nat.le_refl _) _).alloc (by rw [HN.out]; simp) _⟩ ?_
  rintro W0 ⟨b0, b1, hB⟩
  rw [← HN.out]
  have c1 := b0.cell 1
  have c2 := b0.cell 2
  have c3 := b0.cell 3
  go_wp2_with (refine wpList_store_row rfl 29 _ _ rfl (N+1) _ rfl rfl 29 _ b1 (by kernel_rfl) rfl (by simp [Value.oneCell']) ?_)
  refine bodyPost_ret (results_cell_row rfl _ _ (N + 1) 29 _ (0, 0) _ rfl (b1.row _) Try.underlying29 rfl (by kernel_rfl)) rfl ?_
  exact ⟨rfl, Below.setRow hB (by omega) _⟩
namespace Pa
/-- What goes for a push. -/
def out (most : Nat) (l : List Ent) (x : Ent) : Ent × Bool := if most < l.length + 1 then ((l ++ [x]).headD (0, 0, 0), true) else ((0, 0, 0), false)
/-- The newest. -/
def last (l : List Ent) : Ent × Bool := match l.getLast? with
  | none => ((0, 0, 0), false)
  | some x => (x, true)
/-- The oldest. -/
def front (l : List Ent) : Ent × Bool := match l with
  | [] => ((0, 0, 0), false)
  | x :: _ => (x, true)
theorem last_snoc (l : List Ent) (x : Ent) : last (l ++ [x]) = (x, true) := by simp [last]
theorem snoc_of (l : List Ent) : l = [] ∨ ∃ m x, l = m ++ [x] := by
  rcases List.eq_nil_or_concat l with h | ⟨m, x, h⟩
  · exact .inl h
  · exact .inr ⟨m, x, by simpa using h⟩
end Pa
theorem own_push_out {N : Nat} {w W : World} {b most : Nat} {u : Value} {l : List Pa.Ent} (x : Pa.Ent) (hl : l.length ≤ most) (hm : most ≤ 100000) (h : Pa.Own N w W b most u l) :
    Calls Try.prog 10 #[.pointer (some ⟨b, 0, none⟩), Pa.val x] W fun e w' => e = .returned (.tuple #[Pa.val (Pa.out most l x).1, .bool (Pa.out most l x).2]) ∧ ∃ u', Pa.Own N w w' b most u' (Pa.psh most l x) ∧ Chg (Pa.May b u) W w' := by
  unfold Pa.psh Pa.out
  by_cases hf : most < l.length + 1
  · rw [if_pos hf, if_pos hf]
    obtain ⟨y, m, hy⟩ : ∃ y m, l ++ [x] = y :: m := by cases l <;> exact ⟨_, _, rfl⟩
    rw [hy]
    exact own_push_full x y m hf (by omega) hy h
  · rw [if_neg hf, if_neg hf]
    exact own_push_room x (by omega) hm h
theorem rown_push_out (b most : Nat) (u : Value) (x : Pa.Ent) (l : List Pa.Ent) (hl : l.length ≤ most) (hm : most ≤ 100000) (w : World) (h : Pa.RAt w b most u l) :
    Calls Try.prog 14 #[.pointer (some ⟨b, 0, none⟩), Pa.val x] w fun e w' => e = .returned (.tuple #[Pa.val (Pa.out most l x).1, .bool (Pa.out most l x).2]) ∧ ∃ u', Pa.RAt w' b most u' (Pa.psh most l x) ∧ Chg (· = b) w w' := by
  refine (rpast_push b most u x l (by omega) w h).mono ?_
  rintro e w' ⟨h1, h2⟩
  unfold Pa.psh Pa.out
  by_cases hf : most < l.length + 1
  · rw [if_pos hf, if_pos hf]
    obtain ⟨y, m, hy⟩ : ∃ y m, l ++ [x] = y :: m := by cases l <;> exact ⟨_, _, rfl⟩
    obtain ⟨e1, u', e2, e3, _⟩ := h1 hf y m hy
    rw [hy]
    exact ⟨e1, u', e2, e3⟩
  · rw [if_neg hf, if_neg hf]
    obtain ⟨e1, u', e2, e3, _⟩ := h2 (by omega)
    exact ⟨e1, u', e2, e3⟩
theorem own_pop_any {N : Nat} {w W : World} {b most : Nat} {u : Value} {l : List Pa.Ent} (hm : l.length ≤ 100000) (h : Pa.Own N w W b most u l) :
    Calls Try.prog 11 #[.pointer (some ⟨b, 0, none⟩)] W fun e w' => e = .returned (.tuple #[Pa.val (Pa.last l).1, .bool (Pa.last l).2]) ∧ ∃ u', Pa.Own N w w' b most u' l.dropLast ∧ Chg (Pa.May b u) W w' := by
  rcases Pa.snoc_of l with rfl | ⟨m, x, rfl⟩
  · exact (past_pop0 b most u W h.2.2.1).mono fun e w' ⟨h1, h2⟩ => ⟨h1, u, h.grow h2, Chg.of_below h2⟩
  · rw [Pa.last_snoc, List.dropLast_concat]
    exact own_pop x (by simp at hm; omega) h
theorem rown_pop_any (b most : Nat) (u : Value) (l : List Pa.Ent) (hm : l.length ≤ 100000) (w : World) (h : Pa.RAt w b most u l) :
    Calls Try.prog 17 #[.pointer (some ⟨b, 0, none⟩)] w fun e w' => e = .returned (.tuple #[Pa.val (Pa.last l).1, .bool (Pa.last l).2]) ∧ ∃ u', Pa.RAt w' b most u' l.dropLast ∧ Chg (· = b) w w' := by
  rcases Pa.snoc_of l with rfl | ⟨m, x, rfl⟩
  · exact (rpast_pop0 b most u w h).mono fun e w' ⟨h1, h2⟩ => ⟨h1, u, h.below h2, Chg.of_below h2⟩
  · rw [Pa.last_snoc, List.dropLast_concat]
    exact rpast_pop b most u x m (by simp at hm; omega) w h
theorem own_drop_any {N : Nat} {w W : World} {b most : Nat} {u : Value} {l : List Pa.Ent} (hm : l.length ≤ 100000) (h : Pa.Own N w W b most u l) :
    Calls Try.prog 18 #[.pointer (some ⟨b, 0, none⟩)] W fun e w' => e = .returned (.bool (Pa.front l).2) ∧ ∃ u', Pa.Own N w w' b most u' l.tail ∧ Chg (Pa.May b u) W w' := by
  cases l with
  | nil => exact (past_drop0 b most u W h.2.2.1).mono fun e w' ⟨h1, h2⟩ => ⟨h1, u, h.grow h2, Chg.of_below h2⟩
  | cons x m =>
    refine (past_drop b most u x m (by simp at hm; omega) W h.2.2.1).mono ?_
    rintro e w' ⟨rfl, u', hA, hC, hn⟩
    exact ⟨rfl, u', h.next hA hC (fun g hg => .inr (hn g hg)), hC⟩
theorem own_oldest_any {N : Nat} {w W : World} {b most : Nat} {u : Value} {l : List Pa.Ent} (h : Pa.Own N w W b most u l) :
    Calls Try.prog 20 #[.pointer (some ⟨b, 0, none⟩)] W fun e w' => e = .returned (.tuple #[Pa.val (Pa.front l).1, .bool (Pa.front l).2]) ∧ Below W.heap.size W w' := by
  cases l with
  | nil => exact past_oldest0 b most u W h.2.2.1
  | cons x m => exact past_oldest b most u x m W h.2.2.1
/-- A call: what to do, and an entry. -/
def actCells (a : Int × Pa.Ent) : List Value := [.int .u8 a.1, .int .i64 a.2.1, .int .i64 a.2.2.1, .int .i64 a.2.2.2]
/-- The slice value v has these calls in the world. -/
def Acts (w : World) (v : Value) (xs : List (Int × Pa.Ent)) : Prop := Elems w 4 v (xs.map actCells) ∧ ∀ a ∈ xs, (Lit.int .u8 a.1).wf = true
section
variable {H : Type} {enc : TypeId × Value → H} {w : World} {base : Nat} {sp : Nat → Bool} {held : Bool}
theorem open_acts {r : Reach} {b0 : Nat} {v : Value} {d : DataW H} {p : List MemPlace} (hv : Value.okWide Try.prog w r b0 52 v) (h : DataW.Trod enc Try.prog w base sp held 52 v d p) : ∃ xs, Acts w v xs := by
  obtain ⟨cells, h1, h2⟩ := open_elems Try.underlying52 hv h
  have hc : Try.prog.cellsOf 54 = 4 := by kernel_rfl
  rw [hc] at h1
  have h3 : ∀ c ∈ cells, ∃ a : Int × Pa.Ent, c = actCells a ∧ (Lit.int .u8 a.1).wf = true := by
    intro c hcm
    obtain ⟨n, y, hy⟩ := h2 c hcm
    have hl := h1.2.1 c hcm
    obtain ⟨y0, y1, y2, y3, m, _, _, e0, e1, e2, e3⟩ := Go.Joins.trod_struct4 Try.underlying54 hy
    obtain ⟨c0, c1, c2, c3, rfl⟩ : ∃ c0 c1 c2 c3, c = [c0, c1, c2, c3] := by
      match c, hl with
      | [c0, c1, c2, c3], _ => exact ⟨_, _, _, _, rfl⟩
    have k8 : Try.prog.cellsOf 5 = 1 := by kernel_rfl
    have ki : Try.prog.cellsOf 3 = 1 := by kernel_rfl
    simp only [k8, ki, List.drop_zero, List.drop_succ_cons, List.take_succ_cons, List.take_zero] at e0 e1 e2 e3
    obtain ⟨z0, f0, _, g0⟩ := DataW.trod_int Try.underlying5 e0
    obtain ⟨z1, f1, _, _⟩ := DataW.trod_int Try.underlying3 e1
    obtain ⟨z2, f2, _, _⟩ := DataW.trod_int Try.underlying3 e2
    obtain ⟨z3, f3, _, _⟩ := DataW.trod_int Try.underlying3 e3
    simp only [List.cons.injEq, and_true] at f0 f1 f2 f3
    subst f0 f1 f2 f3
    exact ⟨(z0, z1, z2, z3), rfl, g0⟩
  obtain ⟨xs, rfl, hx⟩ := exists_map cells h3
  exact ⟨xs, h1, hx⟩
end
end Go.Proofs.Ytcdfamllamjpeaa
