/- Arguments opened: planes, rectangles, blocks, slices of them. -/
import Derived.Test.YtpjocfcemjdneaaAr
import Derived.Test.YtpjocfcemjdneaaPlane
import Derived.Test.YtpjocfcemjdneaaOpenEl
import Derived.Lib.SmallJoins
namespace Go.Proofs.Ytpjocfcemjdneaa
open Go.ChangeShapes Go.WideShapes Go.ChangeAt Go.RowKit
/-- The value v is a plane of x.c columns, x.r rows, its blocks in the slice x.u. -/
structure PlaneArg where
  c : Int
  r : Int
  u : Value
  bs : List (List Int)
structure IsPlane (w : World) (v : Value) (x : PlaneArg) : Prop where
  val : v = .agg #[.int .i64 x.c, .int .i64 x.r, x.u]
  ar : Ar w 64 x.u x.bs.length (bcells x.bs)
  h64 : Right64 x.bs
  wc : (Lit.int .i64 x.c).wf = true
  wr : (Lit.int .i64 x.r).wf = true
  wb : ∀ b ∈ x.bs, ∀ y ∈ b, (Lit.int .i16 y).wf = true
structure RectArg where
  a : Int
  b : Int
  h : Int
  d : Int
def RectArg.wf (x : RectArg) : Prop := (Lit.int .i64 x.a).wf = true ∧ (Lit.int .i64 x.b).wf = true ∧ (Lit.int .i64 x.h).wf = true ∧ (Lit.int .i64 x.d).wf = true
def RectArg.cells (x : RectArg) : List Value := [.int .i64 x.a, .int .i64 x.b, .int .i64 x.h, .int .i64 x.d]
def IsRect (_w : World) (v : Value) (x : RectArg) : Prop := v = .agg #[.int .i64 x.a, .int .i64 x.b, .int .i64 x.h, .int .i64 x.d] ∧ x.wf
/-- The slice value v has these rectangles. -/
def IsRects (w : World) (v : Value) (xs : List RectArg) : Prop := Elems w 4 v (xs.map RectArg.cells) ∧ ∀ x ∈ xs, x.wf
structure IsBlocks (w : World) (v : Value) (bs : List (List Int)) : Prop where
  ar : Ar w 64 v bs.length (bcells bs)
  h64 : Right64 bs
  wb : ∀ b ∈ bs, ∀ y ∈ b, (Lit.int .i16 y).wf = true
section
variable {H : Type} {enc : TypeId × Value → H} {w : World} {base : Nat} {sp : Nat → Bool} {held : Bool}
theorem blocks_of_elems {u : Value} {cells : List (List Value)} (h1 : Elems w 64 u cells) (h2 : ∀ c ∈ cells, ∃ (n : Nat) (y : DataW H × List MemPlace), DataW.trod enc Try.prog w base sp held n 34 c = some y) : ∃ bs, IsBlocks w u bs := by
  have h3 : ∀ c ∈ cells, ∃ b : List Int, c = b.map (Value.int .i16) ∧ (b.length = 64 ∧ ∀ y ∈ b, (Lit.int .i16 y).wf = true) := by
    intro c hc
    obtain ⟨n, y, hy⟩ := h2 c hc
    obtain ⟨xs, e, hl, hw⟩ := ints_of_trod Try.underlying34 Try.underlying32 (by kernel_rfl) (by kernel_rfl) hy
    exact ⟨xs, e, hl, hw⟩
  obtain ⟨bs, rfl, hx⟩ := exists_map cells h3
  have ha := h1.ar
  rw [List.length_map] at ha
  refine ⟨bs, ?_, fun b hb => (hx b hb).1, fun b hb => (hx b hb).2⟩
  have e : (bs.map fun b => b.map (Value.int .i16)).flatten = bcells bs := by rw [bcells, List.flatMap_def]
  rw [e] at ha
  exact ha
theorem open_blocks {r : Reach} {b0 : Nat} {v : Value} {d : DataW H} {p : List MemPlace} (hv : Value.okWide Try.prog w r b0 22 v) (h : DataW.Trod enc Try.prog w base sp held 22 v d p) : ∃ bs, IsBlocks w v bs := by
  obtain ⟨cells, h1, h2⟩ := open_elems Try.underlying22 hv h
  have hc : Try.prog.cellsOf 34 = 64 := by kernel_rfl
  rw [hc] at h1
  exact blocks_of_elems h1 h2
theorem open_plane {r : Reach} {b0 : Nat} {v : Value} {d : DataW H} {p : List MemPlace} (hv : Value.okWide Try.prog w r b0 24 v) (h : DataW.Trod enc Try.prog w base sp held 24 v d p) : ∃ x, IsPlane w v x := by
  obtain ⟨v0, v1, v2, y0, y1, y2, n, rfl, _, _, e0, e1, e2⟩ := Go.Joins.open_agg3 Try.underlying24 (by kernel_rfl) (by kernel_rfl) hv h
  obtain ⟨z0, f0, _, g0⟩ := DataW.trod_int Try.underlying3 e0
  obtain ⟨z1, f1, _, g1⟩ := DataW.trod_int Try.underlying3 e1
  simp only [List.cons.injEq, and_true] at f0 f1
  subst f0 f1
  obtain ⟨cells, h1, h2⟩ := open_elems_trod Try.underlying22 e2
  have hc : Try.prog.cellsOf 34 = 64 := by kernel_rfl
  rw [hc] at h1
  obtain ⟨bs, hb⟩ := blocks_of_elems h1 h2
  exact ⟨⟨z0, z1, v2, bs⟩, rfl, hb.ar, hb.h64, g0, g1, hb.wb⟩
theorem open_rect {r : Reach} {b0 : Nat} {v : Value} {d : DataW H} {p : List MemPlace} (hv : Value.okWide Try.prog w r b0 36 v) (h : DataW.Trod enc Try.prog w base sp held 36 v d p) : ∃ x, IsRect w v x := by
  obtain ⟨v0, v1, v2, v3, y0, y1, y2, y3, n, rfl, _, _, e0, e1, e2, e3⟩ := Go.Joins.open_agg4 Try.underlying36 (by kernel_rfl) (by kernel_rfl) hv h
  obtain ⟨z0, f0, _, g0⟩ := DataW.trod_int Try.underlying3 e0
  obtain ⟨z1, f1, _, g1⟩ := DataW.trod_int Try.underlying3 e1
  obtain ⟨z2, f2, _, g2⟩ := DataW.trod_int Try.underlying3 e2
  obtain ⟨z3, f3, _, g3⟩ := DataW.trod_int Try.underlying3 e3
  simp only [List.cons.injEq, and_true] at f0 f1 f2 f3
  subst f0 f1 f2 f3
  exact ⟨⟨z0, z1, z2, z3⟩, rfl, g0, g1, g2, g3⟩
theorem open_rects {r : Reach} {b0 : Nat} {v : Value} {d : DataW H} {p : List MemPlace} (hv : Value.okWide Try.prog w r b0 43 v) (h : DataW.Trod enc Try.prog w base sp held 43 v d p) : ∃ xs, IsRects w v xs := by
  obtain ⟨cells, h1, h2⟩ := open_elems Try.underlying43 hv h
  have hc : Try.prog.cellsOf 36 = 4 := by kernel_rfl
  rw [hc] at h1
  have h3 : ∀ c ∈ cells, ∃ a : RectArg, c = a.cells ∧ a.wf := by
    intro c hcm
    obtain ⟨n, y, hy⟩ := h2 c hcm
    have hl := h1.2.1 c hcm
    obtain ⟨y0, y1, y2, y3, m, _, _, e0, e1, e2, e3⟩ := Go.Joins.trod_struct4 Try.underlying36 hy
    obtain ⟨c0, c1, c2, c3, rfl⟩ : ∃ c0 c1 c2 c3, c = [c0, c1, c2, c3] := by
      match c, hl with
      | [c0, c1, c2, c3], _ => exact ⟨_, _, _, _, rfl⟩
    have ki : Try.prog.cellsOf 3 = 1 := by kernel_rfl
    simp only [ki, List.drop_zero, List.drop_succ_cons, List.take_succ_cons, List.take_zero] at e0 e1 e2 e3
    obtain ⟨z0, f0, _, g0⟩ := DataW.trod_int Try.underlying3 e0
    obtain ⟨z1, f1, _, g1⟩ := DataW.trod_int Try.underlying3 e1
    obtain ⟨z2, f2, _, g2⟩ := DataW.trod_int Try.underlying3 e2
    obtain ⟨z3, f3, _, g3⟩ := DataW.trod_int Try.underlying3 e3
    simp only [List.cons.injEq, and_true] at f0 f1 f2 f3
    subst f0 f1 f2 f3
    exact ⟨⟨z0, z1, z2, z3⟩, rfl, g0, g1, g2, g3⟩
  obtain ⟨xs, rfl, hx⟩ := exists_map cells h3
  exact ⟨xs, h1, hx⟩
end
end Go.Proofs.Ytpjocfcemjdneaa
