/- The statements on turns: what their walks have in common. -/
import Derived.Test.YtgmhhocpdfdplaaGreatGO
import Derived.Test.YtgmhhocpdfdplaaGreatGN
namespace Go.Proofs.YtgmhhocpdfdplaaGreat
open Go.RowKit
set_option maxRecDepth 100000
theorem SameD.size {x y : ImgArg} (h : SameD x y) : sizeN y = sizeN x := by
  have e1 : blN y = blN x := by
    funext i
    unfold blN
    have := congrArg (fun l => l[i]?) h.cs
    simp only [List.getElem?_map] at this
    simp only [List.getD_eq_getElem?_getD]
    cases hx : x.cs[i]? with
    | none =>
      rw [hx] at this
      cases hy : y.cs[i]? with
      | none => rfl
      | some b => rw [hy] at this; cases this
    | some a =>
      rw [hx] at this
      cases hy : y.cs[i]? with
      | none => rw [hy] at this; cases this
      | some b =>
        rw [hy] at this
        simp only [Option.map_some, Option.some.injEq] at this
        have e : b.bs = a.bs := congrArg (fun t => t.2.2.2) this
        simp only [Option.getD_some]
        rw [e]
  unfold sizeN
  rw [e1, h.len, h.qs, h.ts]
  unfold tlN
  rw [h.ts]
theorem flipD_yes {x : ImgArg} {k : Int} (h : mayE x k = 0) : flipD x k = flipI x k := if_pos h
theorem flipD_no {x : ImgArg} {k : Int} (h : mayE x k ≠ 0) : flipD x k = zeroI := if_neg h
theorem SameD.sameOf {D E y z : ImgArg} (h1 : SameD D y) (h2 : SameD E z) (h : SameD E D) : sameB y z = true := ((h2.symm.trans h).trans h1).same
end Go.Proofs.YtgmhhocpdfdplaaGreat
