/- A block of a list of blocks; its load. -/
import Derived.Test.YtgmhhocpdfdplaaGB
namespace Go.Proofs.Ytgmhhocpdfdplaa
open Go.RowKit
set_option maxRecDepth 100000
theorem ar_loadx {w : World} {ad : Addr} {cap n : Nat} {bs : List (List Int)} (h : Ar w 64 (.slice (some ad) n cap) n (bcells bs)) (h64 : Right64 bs) (i : Nat) (hi : i < bs.length) (x : List Int) (hx : bs.getD i [] = x) {o : Oper} {a : Act} (y : Operand) (ho : o.op = .load 57 y) (hy : a.eval y = .pointer (some (ad.add (i * 64)))) :
    (execOp a.eval o).run Try.prog w = .ok (.value (.agg (ints .i16 x))) w := hx ▸ ar_load h h64 i hi y ho hy
namespace Pl
/-- Block i. -/
def blk (bs : List (List Int)) (i : Nat) : List Int := bs.getD i (List.replicate 64 0)
theorem blk_get {bs : List (List Int)} {i : Nat} (h : i < bs.length) : bs.getD i [] = blk bs i := by
  unfold blk
  rw [List.getD_eq_getElem?_getD, List.getD_eq_getElem?_getD, List.getElem?_eq_getElem h]
  rfl
theorem blk_len {bs : List (List Int)} (h : Right64 bs) (i : Nat) : (blk bs i).length = 64 := by
  unfold blk
  by_cases hi : i < bs.length
  · rw [List.getD_eq_getElem?_getD, List.getElem?_eq_getElem hi]
    exact h _ (List.getElem_mem hi)
  · rw [List.getD_eq_getElem?_getD, List.getElem?_eq_none (by omega)]
    simp
end Pl
end Go.Proofs.Ytgmhhocpdfdplaa
