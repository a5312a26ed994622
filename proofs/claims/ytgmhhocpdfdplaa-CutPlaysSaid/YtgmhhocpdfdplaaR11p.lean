/- The reference's frame: as it is made; cells. -/
import Derived.Test.YtgmhhocpdfdplaaGE
import Derived.Test.YtgmhhocpdfdplaaGF
namespace Go.Proofs.Ytgmhhocpdfdplaa
open Go.RowKit
set_option maxRecDepth 100000
def zeroRF : Array Value := #[.int .i64 0, .int .i64 0, .int .i64 0, .int .i64 0, .slice none 0 0, .slice none 0 0]
/-- The reference's frame in block F while it is made; the result's block N. -/
structure NR (N F : Nat) (u gv : Value) (qs : List (Int × Int)) (gs : List GridV) (uw uh ac dn : Int) (w W : World) : Prop where
  bN : Blk W N #[.int .i64 0, .int .i64 0, .int .i64 0, .int .i64 0, .slice none 0 0, .slice none 0 0] 44
  bF : Blk W F #[.int .i64 uw, .int .i64 uh, .int .i64 ac, .int .i64 dn, u, gv] 44
  row : Row W N 112 2 u qs.length (qs.map partC).flatten
  grid : Row W N 107 4 gv gs.length (gs.map GridV.cells).flatten
  hN : N < F
  hB : Below N w W
section
variable {N F : Nat} {u gv : Value} {qs : List (Int × Int)} {gs : List GridV} {uw uh ac dn : Int} {w W W' : World}
theorem NR.below (h : NR N F u gv qs gs uw uh ac dn w W) (hb : Below W.heap.size W W') : NR N F u gv qs gs uw uh ac dn w W' :=
  ⟨h.bN.below hb h.bN.lt, h.bF.below hb h.bF.lt, h.row.grow hb, h.grid.grow hb, h.hN, h.hB.trans (hb.mono (Nat.le_of_lt h.bN.lt))⟩
theorem NR.rowF (h : NR N F u gv qs gs uw uh ac dn w W) : ∀ g, u.ownBlock = some g → g ≠ F := h.row.typed h.bF (by decide)
theorem NR.gridF (h : NR N F u gv qs gs uw uh ac dn w W) : ∀ g, gv.ownBlock = some g → g ≠ F := h.grid.typed h.bF (by decide)
theorem NR.setUw (h : NR N F u gv qs gs uw uh ac dn w W) (z : Int) : NR N F u gv qs gs z uh ac dn w (W.setCell ⟨F, 0, none⟩ (.int .i64 z)) :=
  ⟨h.bN.other _ _ (Nat.ne_of_lt h.hN), h.bF.set 0 _, h.row.other _ _ h.rowF, h.grid.other _ _ h.gridF, h.hN, h.hB.setCell (Nat.le_of_lt h.hN) _⟩
theorem NR.setUh (h : NR N F u gv qs gs uw uh ac dn w W) (z : Int) : NR N F u gv qs gs uw z ac dn w (W.setCell ⟨F, 1, none⟩ (.int .i64 z)) :=
  ⟨h.bN.other _ _ (Nat.ne_of_lt h.hN), h.bF.set 1 _, h.row.other _ _ h.rowF, h.grid.other _ _ h.gridF, h.hN, h.hB.setCell (Nat.le_of_lt h.hN) _⟩
theorem NR.setAc (h : NR N F u gv qs gs uw uh ac dn w W) (z : Int) : NR N F u gv qs gs uw uh z dn w (W.setCell ⟨F, 2, none⟩ (.int .i64 z)) :=
  ⟨h.bN.other _ _ (Nat.ne_of_lt h.hN), h.bF.set 2 _, h.row.other _ _ h.rowF, h.grid.other _ _ h.gridF, h.hN, h.hB.setCell (Nat.le_of_lt h.hN) _⟩
theorem NR.setDn (h : NR N F u gv qs gs uw uh ac dn w W) (z : Int) : NR N F u gv qs gs uw uh ac z w (W.setCell ⟨F, 3, none⟩ (.int .i64 z)) :=
  ⟨h.bN.other _ _ (Nat.ne_of_lt h.hN), h.bF.set 3 _, h.row.other _ _ h.rowF, h.grid.other _ _ h.gridF, h.hN, h.hB.setCell (Nat.le_of_lt h.hN) _⟩
theorem NR.apart (h : NR N F u gv qs gs uw uh ac dn w W) : ∀ g, u.ownBlock = some g → some g ≠ gv.ownBlock := by
  intro g hg e
  rcases h.row.2 with ⟨rfl, _⟩ | ⟨g', cap, cur, rfl, _, hb, _⟩
  · cases hg
  · obtain rfl : g' = g := Option.some.inj hg
    exact h.grid.typed hb (by decide) g' e.symm rfl
theorem NR.app {v' : Value} {g : GridV} (h : NR N F u gv qs gs uw uh ac dn w W) (hg : W.grownBy W' gv.ownBlock) (hR : Row W' N 107 4 v' (gs.length + 1) ((gs.map GridV.cells).flatten ++ g.cells)) :
    NR N F u v' qs (gs ++ [g]) uw uh ac dn w (W'.setCell ⟨F, 5, none⟩ v') := by
  have hF : some F ≠ gv.ownBlock := fun e => h.gridF F e.symm rfl
  have hNn : some N ≠ gv.ownBlock := fun e => h.grid.typed h.bN (by decide) N e.symm rfl
  have hb := h.bF.grown hg hF
  refine ⟨(h.bN.grown hg hNn).other _ _ (Nat.ne_of_lt h.hN), hb.set 5 _, (Row.grown h.row hg h.apart).other _ _ h.rowF, ?_, h.hN, (Below.grown h.hB (Nat.le_of_lt h.bN.lt) hg (fun g e => (h.grid.lt g e).1)).setCell (Nat.le_of_lt h.hN) _⟩
  have := hR.other ⟨F, 5, none⟩ v' (hR.typed hb (by decide))
  rw [List.map_append, List.flatten_append, List.length_append]
  simpa using this
theorem NR.setRow (h : NR N F u gv qs gs uw uh ac dn w W) (k : Nat) (ds : Array Value) (hN : N ≠ k) (hF : k ≠ F) (hu : ∀ g, u.ownBlock = some g → g ≠ k) (hg : ∀ g, gv.ownBlock = some g → g ≠ k) (hk : N ≤ k) :
    NR N F u gv qs gs uw uh ac dn w (W.setRow k ds) :=
  ⟨h.bN.rowOther k ds hN, h.bF.rowOther k ds hF.symm, h.row.same fun g e => setRow_other W k g ds (hu g e), h.grid.same fun g e => setRow_other W k g ds (hg g e), h.hN, Below.setRow h.hB hk _⟩
theorem NR.parts (h : NR N F u gv qs gs uw uh ac dn w W) (hl : qs.length ≤ 1000000) : IsParts W u qs :=
  Ar.elems h.row.ar (fun c hc => by obtain ⟨p, _, rfl⟩ := List.mem_map.1 hc; rfl) (by simp) (by simp only [maxLen]; omega)
end
structure EarlyB (ps : List (Int × Int)) (i : Nat) : Prop where
  z : ∀ j, j < i → badP (ps.getD j (0, 0)) = false
end Go.Proofs.Ytgmhhocpdfdplaa
