/- Plain facts on memory, over any program: whole blocks of cells known by number, through new blocks, stores and draws; arrays of integers. No Go text. -/
import Derived.WalkKit
import Derived.WalkSmall
import Derived.Lib.Hide
namespace Go.Proofs.Ytgmhhocpdfdplaa
open Go.RowKit

/-- Block g is a whole, unfrozen block of these cells. -/
def Blk (w : World) (g : Nat) (cs : Array Value) (t : TypeId) : Prop := w.heap[g]? = some (.cells cs t (0, 0))
theorem Blk.lt {w : World} {g : Nat} {cs : Array Value} {t : TypeId} (h : Blk w g cs t) : g < w.heap.size := (Array.getElem?_eq_some_iff.1 h).1
theorem Blk.cell {w : World} {g : Nat} {cs : Array Value} {t : TypeId} (h : Blk w g cs t) (i : Nat) : w.cell? ⟨g, i, none⟩ = cs[i]? := cell_of_row w g i cs t (0, 0) h
theorem Blk.free {w : World} {g : Nat} {cs : Array Value} {t : TypeId} (h : Blk w g cs t) (i : Nat) : w.frozen? ⟨g, i, none⟩ = false := frozen_of_row w g i cs t h
theorem Blk.new (w : World) (cs : Array Value) (t : TypeId) : Blk (w.alloc (.cells cs t)) w.heap.size cs t := heap_alloc_new w _
theorem Blk.new' (w : World) (cs : Array Value) (t : TypeId) {n : Nat} (hn : n = w.heap.size) : Blk (w.alloc (.cells cs t)) n cs t := hn ▸ heap_alloc_new w _
theorem Blk.alloc {w : World} {g : Nat} {cs : Array Value} {t : TypeId} (h : Blk w g cs t) (o : Obj) : Blk (w.alloc o) g cs t := (Below.heap_alloc w o g h.lt).trans h
theorem Blk.drew {w : World} {g : Nat} {cs : Array Value} {t : TypeId} (h : Blk w g cs t) : Blk w.drew g cs t := h
theorem Blk.drewN {w : World} {g : Nat} {cs : Array Value} {t : TypeId} (h : Blk w g cs t) (n : Nat) : Blk (w.drewN n) g cs t := h
theorem Blk.set {w : World} {g : Nat} {cs : Array Value} {t : TypeId} (h : Blk w g cs t) (i : Nat) (v : Value) : Blk (w.setCell ⟨g, i, none⟩ v) g (cs.setIfInBounds i v) t := heap_setCell_same w g i cs t v h
theorem Blk.other {w : World} {g : Nat} {cs : Array Value} {t : TypeId} (h : Blk w g cs t) (a : Addr) (v : Value) (hg : g ≠ a.block) : Blk (w.setCell a v) g cs t := (heap_setCell_other w a g v hg).trans h
theorem Blk.row {w : World} {g : Nat} {cs : Array Value} {t : TypeId} (h : Blk w g cs t) (ds : Array Value) : Blk (w.setRow g ds) g ds t := setRow_heap w g cs ds t _ h
theorem Blk.rowOther {w : World} {g : Nat} {cs : Array Value} {t : TypeId} (h : Blk w g cs t) (k : Nat) (ds : Array Value) (hk : g ≠ k) : Blk (w.setRow k ds) g cs t := (setRow_other w k g ds hk).trans h
theorem Blk.below {w w' : World} {g B : Nat} {cs : Array Value} {t : TypeId} (h : Blk w g cs t) (hb : Below B w w') (hg : g < B) : Blk w' g cs t := (hb.block g hg).trans h

theorem Below.setRow {B : Nat} {a w : World} (h : Below B a w) {g : Nat} (hg : B ≤ g) (ds : Array Value) : Below B a (w.setRow g ds) :=
  h.trans ⟨rfl, rfl, rfl, by simp, fun k hk => setRow_other w g k ds (by omega)⟩

/-- The world behind a point is any world that keeps what is said of it. -/
theorem wp_world {P : Program} {c : Code} {Q : Exit → Act → World → Prop} {a : Act} {w : World} (I : World → Prop) (h : I w) (k : ∀ W, I W → c.wp P Q a W) : c.wp P Q a w := k w h

/-- An array of integers, as cells. -/
def ints (k : IntKind) (xs : List Int) : Array Value := (xs.map (Value.int k)).toArray
@[simp] theorem ints_size (k : IntKind) (xs : List Int) : (ints k xs).size = xs.length := by simp [ints]
theorem ints_get (k : IntKind) (xs : List Int) (i : Nat) (h : i < xs.length) : (ints k xs)[i]? = some (.int k (xs.getD i 0)) := by
  simp [ints, List.getD_eq_getElem?_getD, List.getElem?_eq_getElem h]
theorem ints_set (k : IntKind) (xs : List Int) (i : Nat) (v : Int) : (ints k xs).setIfInBounds i (.int k v) = ints k (xs.set i v) := by
  unfold ints
  apply Array.ext'
  simp [List.map_set]
theorem ints_one (k : IntKind) (xs : List Int) : (ints k xs).all (·.oneCell') = true := by
  rw [Array.all_eq_true_iff_forall_mem]; intro v hv; simp [ints] at hv; obtain ⟨x, _, rfl⟩ := hv; rfl
theorem ints_inj {k : IntKind} {xs ys : List Int} : ints k xs = ints k ys ↔ xs = ys := by
  constructor
  · intro h
    have h2 : (xs.map (Value.int k)) = ys.map (Value.int k) := by simpa [ints] using h
    have : ∀ (a b : List Int), a.map (Value.int k) = b.map (Value.int k) → a = b := by
      intro a
      induction a with
      | nil => intro b h; cases b <;> simp_all
      | cons x a ih => intro b h; cases b with
        | nil => simp at h
        | cons y b => simp at h; obtain ⟨rfl, h⟩ := h; rw [ih b (by simpa using h)]
    exact this _ _ h2
  · rintro rfl; rfl
theorem ints_zero64 (k : IntKind) : ints k (List.replicate 64 0) = #[.int k 0, .int k 0, .int k 0, .int k 0, .int k 0, .int k 0, .int k 0, .int k 0,
  .int k 0, .int k 0, .int k 0, .int k 0, .int k 0, .int k 0, .int k 0, .int k 0, .int k 0, .int k 0, .int k 0, .int k 0, .int k 0, .int k 0, .int k 0, .int k 0,
  .int k 0, .int k 0, .int k 0, .int k 0, .int k 0, .int k 0, .int k 0, .int k 0, .int k 0, .int k 0, .int k 0, .int k 0, .int k 0, .int k 0, .int k 0, .int k 0,
  .int k 0, .int k 0, .int k 0, .int k 0, .int k 0, .int k 0, .int k 0, .int k 0, .int k 0, .int k 0, .int k 0, .int k 0, .int k 0, .int k 0, .int k 0, .int k 0,
  .int k 0, .int k 0, .int k 0, .int k 0, .int k 0, .int k 0, .int k 0, .int k 0] := rfl
end Go.Proofs.Ytgmhhocpdfdplaa
