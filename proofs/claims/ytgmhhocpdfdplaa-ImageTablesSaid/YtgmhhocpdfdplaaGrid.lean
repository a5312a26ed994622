/- Package frame: a frame in memory; Grid. -/
import Derived.Test.YtgmhhocpdfdplaaFr1
import Derived.Great.BuildSlice
namespace Go.Proofs.Ytgmhhocpdfdplaa
open Go.RowKit
set_option maxRecDepth 100000
set_option maxHeartbeats 4000000
/-- A component's grid. -/
structure GridV where
  c : Int
  r : Int
  oc : Int
  or_ : Int
def GridV.cells (g : GridV) : List Value := [.int .i64 g.c, .int .i64 g.r, .int .i64 g.oc, .int .i64 g.or_]
/-- A frame at F with these grids. -/
def IsFr (w : World) (F : Nat) (gs : List GridV) : Prop :=
  ∃ (pv gv : Value) (v2 v3 v4 v5 v6 v7 : Value), Blk w F #[pv, gv, v2, v3, v4, v5, v6, v7] 158 ∧ Row w 0 116 4 gv gs.length (gs.map GridV.cells).flatten ∧ gs.length ≤ 1000000
theorem IsFr.below {w w' : World} {F : Nat} {gs : List GridV} (h : IsFr w F gs) (hb : Below w.heap.size w w') : IsFr w' F gs := by
  obtain ⟨pv, gv, v2, v3, v4, v5, v6, v7, bF, hE, hl⟩ := h
  exact ⟨pv, gv, v2, v3, v4, v5, v6, v7, bF.below hb bF.lt, hE.grow hb, hl⟩
/-- A cell of a block of another type is changed. -/
theorem IsFr.other {w : World} {F : Nat} {gs : List GridV} (h : IsFr w F gs) {g : Nat} {cs : Array Value} {t : TypeId} (hb : Blk w g cs t) (h1 : t ≠ 158) (h2 : t ≠ 116) (i : Nat) (v : Value) : IsFr (w.setCell ⟨g, i, none⟩ v) F gs := by
  obtain ⟨pv, gv, v2, v3, v4, v5, v6, v7, bF, hE, hl⟩ := h
  refine ⟨pv, gv, v2, v3, v4, v5, v6, v7, bF.other _ _ (fun e => ?_), hE.other _ _ (hE.typed hb h2), hl⟩
  have e1 : F = g := e
  subst e1
  have := bF.symm.trans hb
  simp at this
  exact h1 this.2.symm
/-- A slice of rows as a slice of elements. -/
theorem flat_get {size : Nat} : ∀ (L : List (List Value)) (i j : Nat), (∀ c ∈ L, c.length = size) → i < L.length → j < size → L.flatten[i * size + j]? = (L.getD i [])[j]?
  | [], i, j, _, h, _ => by simp at h
  | c :: l, 0, j, hL, _, hj => by
    have hc : c.length = size := hL c (by simp)
    rw [List.flatten_cons, List.getElem?_append_left (by omega)]
    simp
  | c :: l, i + 1, j, hL, hi, hj => by
    have hc : c.length = size := hL c (by simp)
    have e : (i + 1) * size + j = size + (i * size + j) := by rw [Nat.add_mul]; omega
    rw [List.flatten_cons, e, List.getElem?_append_right (by omega), hc, Nat.add_sub_cancel_left, flat_get l i j (fun c hc => hL c (by simp [hc])) (by simpa using hi) hj]
    simp
theorem Ar.elems {w : World} {size : Nat} {u : Value} {n : Nat} {L : List (List Value)} (h : Ar w size u n L.flatten) (hL : ∀ c ∈ L, c.length = size) (hn : L.length = n) (hm : n ≤ maxLen) : Elems w size u L := by
  subst hn
  refine ⟨hm, hL, ?_⟩
  rcases h.2 with ⟨h1, h2⟩ | ⟨a, cap, h1, h2, h3, h4⟩
  · exact .inl ⟨h1, List.eq_nil_of_length_eq_zero h2⟩
  · refine .inr ⟨a, cap, h1, h2, h3, fun i hi j hj => ?_⟩
    have hg := flat_get L i j hL hi hj
    have hl : (L.getD i []).length = size := by
      rw [List.getD_eq_getElem?_getD, List.getElem?_eq_getElem hi]
      exact hL _ (List.getElem_mem hi)
    obtain ⟨u, hu⟩ : ∃ u, (L.getD i [])[j]? = Option.some u := ⟨_, List.getElem?_eq_getElem (by omega)⟩
    rw [hu] at hg ⊢
    exact h4 _ _ hg
theorem fr_grid (F : Nat) (gs : List GridV) (i : Nat) (hi : i < gs.length) (w : World) (h : IsFr w F gs) :
    Calls Try.prog 73 #[.pointer (some ⟨F, 0, none⟩), .int .i64 i] w fun r w' => r = .returned (.tuple #[.agg #[.int .i64 (gs[i]'hi).c, .int .i64 (gs[i]'hi).r, .int .i64 (gs[i]'hi).oc, .int .i64 (gs[i]'hi).or_], .bool true]) ∧ Below w.heap.size w w' := by
  obtain ⟨pv, gv, v2, v3, v4, v5, v6, v7, bF, hE0, hl0⟩ := h
  have hE : Elems w 4 gv (gs.map GridV.cells) := Ar.elems hE0.ar (fun c hc => by obtain ⟨p, _, rfl⟩ := List.mem_map.1 hc; rfl) (by simp) (by simp only [maxLen]; omega)
  clear hE0 hl0
  obtain ⟨g, hg⟩ : ∃ g, gs[i]'hi = g := ⟨_, rfl⟩
  have HG := Lib.hid hg
  rw [hg]
  clear hg
  obtain ⟨x0, x1, x2, x3⟩ := g
  obtain ⟨N, hN⟩ : ∃ N, N = w.heap.size := ⟨_, rfl⟩
  have HN := Lib.hid hN
  rw [← hN]
  have hbe : Below w.heap.size w (w.alloc (.cells #[.int .i64 0, .int .i64 0, .int .i64 0, .int .i64 0] 116)) := (Below.refl _ _).alloc (Nat.le_refl _) _
  obtain ⟨a, cap, hgv, -⟩ := hE.get (by decide) (i := i) (by simpa using hi)
  rw [List.length_map] at hgv
  subst hgv
  clear hN
  have hFN : F < w.heap.size := bF.lt
  have j0 : (0 : Int) ≤ (i : Int) := by omega
  have j1 : (i : Int) < (gs.length : Int) := by omega
  have t1 : decide ((i : Int) < 0) = false := decide_eq_false (by omega)
  have t2 : decide ((gs.length : Int) ≤ (i : Int)) = false := decide_eq_false (by omega)
  go_enter Try.func73, Try.ntmps73
  go_upto_region 1 with fail
  rw [← HN.out]
  refine wp_world (fun W => Blk W N #[.int .i64 0, .int .i64 0, .int .i64 0, .int .i64 0] 116 ∧ Blk W F #[pv, .slice (some a) gs.length cap, v2, v3, v4, v5, v6, v7] 158 ∧ Elems W 4 (.slice (some a) gs.length cap) (gs.map GridV.cells) ∧ Below N w W) ⟨Blk.new' _ _ _ HN.out, bF.below hbe bF.lt, hE.below hbe, by rw [HN.out]; exact hbe⟩ ?_
  clear bF hE hbe
  rintro W ⟨bN, bF, hE, hB⟩
  have q1 : W.cell? ⟨F, 1, none⟩ = some (.slice (some a) gs.length cap) := bF.cell 1
  obtain ⟨a', cap', he, c0, cj⟩ := hE.get (by decide) (i := i) (by simpa using hi)
  rw [List.length_map] at he
  simp only [Value.slice.injEq, Option.some.injEq] at he
  obtain ⟨rfl, -, rfl⟩ := he
  rw [getD_map' _ _ _ _ hi, HG.out] at c0 cj
  have c1 := cj 1 (by decide) (by decide)
  have c2 := cj 2 (by decide) (by decide)
  have c3 := cj 3 (by decide) (by decide)
  simp only [GridV.cells, List.getElem?_cons_zero, List.getElem?_cons_succ] at c0 c1 c2 c3
  clear cj hE
  go_wp2_with (refine wpList_store_rowTo rfl 116 _ _ rfl rfl N #[.int .i64 x0, .int .i64 x1, .int .i64 x2, .int .i64 x3] rfl rfl 116 _ bN (by kernel_rfl) rfl (by simp [Value.oneCell']) ?_)
  refine bodyPost_ret (results_row_tmp rfl _ _ N 116 _ _ rfl (bN.row #[.int .i64 x0, .int .i64 x1, .int .i64 x2, .int .i64 x3]) Try.underlying116 rfl (by kernel_rfl)) rfl ?_
  exact ⟨rfl, Below.setRow hB (Nat.le_refl _) _⟩
end Go.Proofs.Ytgmhhocpdfdplaa
