/- Arguments opened: planes, rectangles, blocks, slices of them. -/
import Derived.Test.YtgmhhocpdfdplaaAr
import Derived.Test.YtgmhhocpdfdplaaPlane
import Derived.Test.YtgmhhocpdfdplaaOpenEl
import Derived.Lib.SmallJoins
namespace Go.Proofs.Ytgmhhocpdfdplaa
open Go.ChangeShapes Go.WideShapes Go.ChangeAt Go.RowKit
set_option maxRecDepth 100000
/-- The value v is a plane of x.c columns, x.r rows, its blocks in the slice x.u. -/
structure PlaneArg where
  c : Int
  r : Int
  u : Value
  bs : List (List Int)
structure IsPlane (w : World) (v : Value) (x : PlaneArg) : Prop where
  val : v = .agg #[.int .i64 x.c, .int .i64 x.r, x.u]
  ar : Ar w 64 x.u x.bs.length (bcells x.bs)
  h64 : Right64 x.bs
  wc : (Lit.int .i64 x.c).wf = true
  wr : (Lit.int .i64 x.r).wf = true
  wb : ∀ b ∈ x.bs, ∀ y ∈ b, (Lit.int .i16 y).wf = true
structure RectArg where
  a : Int
  b : Int
  h : Int
  d : Int
def RectArg.wf (x : RectArg) : Prop := (Lit.int .i64 x.a).wf = true ∧ (Lit.int .i64 x.b).wf = true ∧ (Lit.int .i64 x.h).wf = true ∧ (Lit.int .i64 x.d).wf = true
def RectArg.cells (x : RectArg) : List Value := [.int .i64 x.a, .int .i64 x.b, .int .i64 x.h, .int .i64 x.d]
def IsRect (_w : World) (v : Value) (x : RectArg) : Prop := v = .agg #[.int .i64 x.a, .int .i64 x.b, .int .i64 x.h, .int .i64 x.d] ∧ x.wf
/-- The slice value v has these rectangles. -/
def IsRects (w : World) (v : Value) (xs : List RectArg) : Prop := Elems w 4 v (xs.map RectArg.cells) ∧ ∀ x ∈ xs, x.wf
structure IsBlocks (w : World) (v : Value) (bs : List (List Int)) : Prop where
  ar : Ar w 64 v bs.length (bcells bs)
  h64 : Right64 bs
  wb : ∀ b ∈ bs, ∀ y ∈ b, (Lit.int .i16 y).wf = true
section
variable {H : Type} {enc : TypeId × Value → H} {w : World} {base : Nat} {sp : Nat → Bool} {held : Bool}
theorem blocks_of_elems {u : Value} {cells : List (List Value)} (h1 : Elems w 64 u cells) (h2 : ∀ c ∈ cells, ∃ (n : Nat) (y : DataW H × List MemPlace), DataW.trod enc Try.prog w base sp held n 57 c = some y) : ∃ bs, IsBlocks w u bs := by
  have h3 : ∀ c ∈ cells, ∃ b : List Int, c = b.map (Value.int .i16) ∧ (b.length = 64 ∧ ∀ y ∈ b, (Lit.int .i16 y).wf = true) := by
    intro c hc
    obtain ⟨n, y, hy⟩ := h2 c hc
    obtain ⟨xs, e, hl, hw⟩ := ints_of_trod Try.underlying57 Try.underlying55 (by kernel_rfl) (by kernel_rfl) hy
    exact ⟨xs, e, hl, hw⟩
  obtain ⟨bs, rfl, hx⟩ := exists_map cells h3
  have ha := h1.ar
  rw [List.length_map] at ha
  refine ⟨bs, ?_, fun b hb => (hx b hb).1, fun b hb => (hx b hb).2⟩
  have e : (bs.map fun b => b.map (Value.int .i16)).flatten = bcells bs := by rw [bcells, List.flatMap_def]
  rw [e] at ha
  exact ha
theorem open_blocks {r : Reach} {b0 : Nat} {v : Value} {d : DataW H} {p : List MemPlace} (hv : Value.okWide Try.prog w r b0 59 v) (h : DataW.Trod enc Try.prog w base sp held 59 v d p) : ∃ bs, IsBlocks w v bs := by
  obtain ⟨cells, h1, h2⟩ := open_elems Try.underlying59 hv h
  have hc : Try.prog.cellsOf 57 = 64 := by kernel_rfl
  rw [hc] at h1
  exact blocks_of_elems h1 h2
theorem open_plane {r : Reach} {b0 : Nat} {v : Value} {d : DataW H} {p : List MemPlace} (hv : Value.okWide Try.prog w r b0 61 v) (h : DataW.Trod enc Try.prog w base sp held 61 v d p) : ∃ x, IsPlane w v x := by
  obtain ⟨v0, v1, v2, y0, y1, y2, n, rfl, _, _, e0, e1, e2⟩ := Go.Joins.open_agg3 Try.underlying61 (by kernel_rfl) (by kernel_rfl) hv h
  obtain ⟨z0, f0, _, g0⟩ := DataW.trod_int Try.underlying3 e0
  obtain ⟨z1, f1, _, g1⟩ := DataW.trod_int Try.underlying3 e1
  simp only [List.cons.injEq, and_true] at f0 f1
  subst f0 f1
  obtain ⟨cells, h1, h2⟩ := open_elems_trod Try.underlying59 e2
  have hc : Try.prog.cellsOf 57 = 64 := by kernel_rfl
  rw [hc] at h1
  obtain ⟨bs, hb⟩ := blocks_of_elems h1 h2
  exact ⟨⟨z0, z1, v2, bs⟩, rfl, hb.ar, hb.h64, g0, g1, hb.wb⟩
end
end Go.Proofs.Ytgmhhocpdfdplaa
