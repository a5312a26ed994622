/- Arguments opened: rectangles of samples. -/
import Derived.Test.YtgmhhocpdfdplaaGB
namespace Go.Proofs.Ytgmhhocpdfdplaa
open Go.ChangeShapes Go.WideShapes Go.ChangeAt Go.RowKit
set_option maxRecDepth 100000
structure Rect19 where
  x : Int
  y : Int
  w : Int
  h : Int
structure IsRect19 (_ : World) (v : Value) (r : Rect19) : Prop where
  val : v = .agg #[.int .i64 r.x, .int .i64 r.y, .int .i64 r.w, .int .i64 r.h]
  wx : (Lit.int .i64 r.x).wf = true
  wy : (Lit.int .i64 r.y).wf = true
  ww : (Lit.int .i64 r.w).wf = true
  wh : (Lit.int .i64 r.h).wf = true
section
variable {H : Type} {enc : TypeId × Value → H} {w : World} {base : Nat} {sp : Nat → Bool} {held : Bool}
theorem open_rect19 {r : Reach} {b0 : Nat} {v : Value} {d : DataW H} {p : List MemPlace} (hv : Value.okWide Try.prog w r b0 68 v) (h : DataW.Trod enc Try.prog w base sp held 68 v d p) : ∃ x, IsRect19 w v x := by
  obtain ⟨v0, v1, v2, v3, y0, y1, y2, y3, n, rfl, _, _, e0, e1, e2, e3⟩ := Go.Joins.open_agg4 Try.underlying68 (by kernel_rfl) (by kernel_rfl) hv h
  obtain ⟨z0, f0, _, g0⟩ := DataW.trod_int Try.underlying3 e0
  obtain ⟨z1, f1, _, g1⟩ := DataW.trod_int Try.underlying3 e1
  obtain ⟨z2, f2, _, g2⟩ := DataW.trod_int Try.underlying3 e2
  obtain ⟨z3, f3, _, g3⟩ := DataW.trod_int Try.underlying3 e3
  simp only [List.cons.injEq, and_true] at f0 f1 f2 f3
  subst f0 f1 f2 f3
  exact ⟨⟨z0, z1, z2, z3⟩, rfl, g0, g1, g2, g3⟩
end
end Go.Proofs.Ytgmhhocpdfdplaa
