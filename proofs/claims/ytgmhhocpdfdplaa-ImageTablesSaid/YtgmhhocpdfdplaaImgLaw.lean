/- The statements on images: what stands while they run. -/
import Derived.Test.YtgmhhocpdfdplaaAwake11
import Derived.Test.YtgmhhocpdfdplaaDetSeq
import Derived.Test.YtgmhhocpdfdplaaDet2
import Derived.Great.BuildSlice
namespace Go.Proofs.Ytgmhhocpdfdplaa
open Go.RowKit
set_option maxRecDepth 100000
theorem run_exec_build {P : Program} {o : Oper} {a : Act} {w : World} (t : TypeId) (parts : Array (Nat × Operand)) (ho : o.op = .build t parts) (cells : Array Value)
    (hf : P.built t (parts.map fun (i, x) => (i, a.eval x)).toList = some cells) : (execOp a.eval o).run P w = .ok (.value (.agg cells)) w := by
  unfold execOp
  simp only [ho, Sem.run_bind, run_build w t _ cells hf, Result.andThen_ok, Sem.run_pure]
/-- The image x in block N. -/
structure LI (N : Nat) (x : ImgArg) (w W : World) : Prop where
  bN : Blk W N #[.int .i64 x.w, .int .i64 x.h, x.cu, x.qu, x.tu] 26
  img : IsImg W (.agg #[.int .i64 x.w, .int .i64 x.h, x.cu, x.qu, x.tu]) x
  hM : w.heap.size ≤ N
  hB : Below w.heap.size w W
theorem LI.below {N : Nat} {x : ImgArg} {w W W' : World} (h : LI N x w W) (hb : Below W.heap.size W W') : LI N x w W' :=
  ⟨h.bN.below hb h.bN.lt, h.img.below hb, h.hM, h.hB.trans (hb.mono h.hB.size)⟩
theorem LI.begin {x : ImgArg} {w : World} (h : IsImg w x.val x) : LI w.heap.size x w (w.alloc (.cells #[.int .i64 x.w, .int .i64 x.h, x.cu, x.qu, x.tu] 26)) :=
  ⟨Blk.new _ _ _, h.below ((Below.refl _ _).alloc (Nat.le_refl _) _), Nat.le_refl _, (Below.refl _ _).alloc (Nat.le_refl _) _⟩
end Go.Proofs.Ytgmhhocpdfdplaa
