/- Texts on one foundation, joined: BlkA, BlkEq, Range, MonoIn, PlaneAll, SheetAt, Win2, Paint, RPlane, RPlane2, Sel, MonoL, MovedG. -/
import Derived.Test.YtgmhhocpdfdplaaGB
import Derived.Test.YtgmhhocpdfdplaaGA
import Derived.RangeFuncNested
import Derived.RangeFuncBound
import Derived.RangeFuncCalls
import Derived.RangeFuncLeaves
import Derived.Shelf.Abstract
import Derived.Shelf.RegionOpen
import Derived.WalkKit
import Derived.OwnWalkIn
import Derived.TacticsInMore
import Derived.LoopNIn
import Derived.LoopIn
import Derived.OrdersIn
import Derived.Great.BuildSlice
/- A block of a list of blocks; its load. -/
namespace Go.Proofs.Ytgmhhocpdfdplaa
open Go.RowKit
set_option maxRecDepth 100000
theorem ar_loadx {w : World} {ad : Addr} {cap n : Nat} {bs : List (List Int)} (h : Ar w 64 (.slice (some ad) n cap) n (bcells bs)) (h64 : Right64 bs) (i : Nat) (hi : i < bs.length) (x : List Int) (hx : bs.getD i [] = x) {o : Oper} {a : Act} (y : Operand) (ho : o.op = .load 57 y) (hy : a.eval y = .pointer (some (ad.add (i * 64)))) :
    (execOp a.eval o).run Try.prog w = .ok (.value (.agg (ints .i16 x))) w := hx ▸ ar_load h h64 i hi y ho hy
namespace Pl
/-- Block i. -/
def blk (bs : List (List Int)) (i : Nat) : List Int := bs.getD i (List.replicate 64 0)
theorem blk_get {bs : List (List Int)} {i : Nat} (h : i < bs.length) : bs.getD i [] = blk bs i := by
  unfold blk
  rw [List.getD_eq_getElem?_getD, List.getD_eq_getElem?_getD, List.getElem?_eq_getElem h]
  rfl
theorem blk_len {bs : List (List Int)} (h : Right64 bs) (i : Nat) : (blk bs i).length = 64 := by
  unfold blk
  by_cases hi : i < bs.length
  · rw [List.getD_eq_getElem?_getD, List.getElem?_eq_getElem hi]
    exact h _ (List.getElem_mem hi)
  · rw [List.getD_eq_getElem?_getD, List.getElem?_eq_none (by omega)]
    simp
end Pl
end Go.Proofs.Ytgmhhocpdfdplaa
/- slices.Equal of blocks; package plane's Same. -/
namespace Go.Proofs.Ytgmhhocpdfdplaa
open Go.RowKit
set_option maxRecDepth 100000
theorem blk_getL {ys : List (List Int)} {i : Nat} (h : i < ys.length) : ys[i] = Pl.blk ys i := by
  rw [← Pl.blk_get h, List.getD_eq_getElem?_getD, List.getElem?_eq_getElem h]
  rfl
set_option maxHeartbeats 2000000 in
theorem blocks_equal (u v : Value) (xs ys : List (List Int)) (ha64 : Right64 xs) (hb64 : Right64 ys) (w : World) (hA : Ar w 64 u xs.length (bcells xs)) (hB : Ar w 64 v ys.length (bcells ys)) (hn : xs.length ≤ 9223372036854775806) :
    Calls Try.prog 144 #[u, v] w fun e w' => e = .returned (.bool (decide (xs = ys))) ∧ Below w.heap.size w w' := by
  obtain ⟨au, ca, rfl, _, _⟩ := hA.len
  obtain ⟨bv, cb, rfl, _, _⟩ := hB.len
  by_cases hl : xs.length = ys.length
  · rw [← hl] at hB ⊢
    have HL := Lib.hid hl
    clear hl
    go_enter Try.func144, Try.ntmps144
    go_wp2_with fail
    go_loopw [13] (fun i wr => ∃ j : Nat, j ≤ xs.length ∧ i = .int .i64 j ∧ Below w.heap.size w wr ∧ ∀ k, k < j → Pl.blk xs k = Pl.blk ys k) (fun i _ => xs.length - (intOf i).toNat)
    case atStart => exact ⟨0, Nat.zero_le _, rfl, Below.refl _ _, fun k hk => absurd hk (by omega)⟩
    case round =>
      obtain ⟨j, hj, rfl, hb, hE⟩ := hrel
      by_cases hlt : j < xs.length
      · have tj : decide ((j : Int) < (xs.length : Int)) = true := by simpa using hlt
        have hlt2 : j < ys.length := by rw [← HL.out]; exact hlt
        have hA' := hA.below hb
        have hB' := hB.below hb
        obtain ⟨ad, ca', he, _, _⟩ := hA'.some (by omega)
        obtain ⟨rfl, rfl⟩ : au = some ad ∧ ca = ca' := by simpa using he
        obtain ⟨bd, cb', he2, _, _⟩ := hB'.some (by omega)
        obtain ⟨rfl, rfl⟩ : bv = some bd ∧ cb = cb' := by simpa using he2
        have hj0 : (0 : Int) ≤ (j : Int) := by omega
        have hj1 : (j : Int) < (xs.length : Int) := by omega
        have hB2 : Ar wr 64 (.slice (some bd) ys.length cb) ys.length (bcells ys) := by have h := hB'; rw [HL.out] at h; exact h
        go_upto_region 6 with fail
        refine wp_region_det (fun W => Below wr.heap.size wr W) (by kernel_rfl) (by kernel_rfl) (Below.refl _ _).drew ?_
        (repeat (first | (refine det_skip (by rfl) ?_; simp only [Act.put, List.setIfInBounds_toArray, List.set_cons_zero, List.set_cons_succ]) | (refine det_pure (v := ?_) (by rfl) ?_ ?_; rotate_left; (intro wS hS; go_simp; try with_reducible rfl); simp only [Act.put, List.setIfInBounds_toArray, List.set_cons_zero, List.set_cons_succ])))
        refine det_pure (by rfl) (fun w1 hS => ar_loadx (hA'.below hS) ha64 j hlt _ (Pl.blk_get hlt) _ rfl rfl) ?_
        simp only [Act.put, List.setIfInBounds_toArray, List.set_cons_zero, List.set_cons_succ]
        (repeat (first | (refine det_skip (by rfl) ?_; simp only [Act.put, List.setIfInBounds_toArray, List.set_cons_zero, List.set_cons_succ]) | (refine det_pure (v := ?_) (by rfl) ?_ ?_; rotate_left; (intro wS hS; go_simp; try with_reducible rfl); simp only [Act.put, List.setIfInBounds_toArray, List.set_cons_zero, List.set_cons_succ])))
        refine det_pure (by rfl) (fun w1 hS => ar_loadx (hB2.below hS) hb64 j hlt2 _ (Pl.blk_get hlt2) _ rfl rfl) ?_
        simp only [Act.put, List.setIfInBounds_toArray, List.set_cons_zero, List.set_cons_succ]
        refine det_pure (by rfl) (fun w1 _ => run_exec_neq_ints 57 _ _ _ rfl 55 64 .i16 (Pl.blk xs j) (Pl.blk ys j) rfl rfl Try.underlying57 Try.underlying55 (by kernel_rfl) (Pl.blk_len ha64 j) (Pl.blk_len hb64 j) (by kernel_rfl)) ?_
        simp only [Act.put, List.setIfInBounds_toArray, List.set_cons_zero, List.set_cons_succ]
        refine det_nil ?_
        intro W2 hb2
        by_cases he : Pl.blk xs j = Pl.blk ys j
        · rw [decide_eq_true he]
          go_wp2_with fail
          exact ⟨⟨j + 1, by omega, by go_num, hb.trans (hb2.mono hb.size), fun k hk => by
            by_cases hkj : k = j
            · rw [hkj]; exact he
            · exact hE k (by omega)⟩, by simp [intOf]; omega⟩
        · rw [decide_eq_false he]
          have : ¬ xs = ys := fun h => he (by rw [h])
          go_wp2_with fail
          go_ret
          simp only [this, decide_false]
          exact ⟨rfl, hb.trans (hb2.mono hb.size)⟩
      · have tj : decide ((j : Int) < (xs.length : Int)) = false := by simpa using hlt
        obtain rfl : j = xs.length := by omega
        go_wp2_with fail
        go_ret
        have : xs = ys := List.ext_getElem HL.out (fun i h1 h2 => by rw [blk_getL h1, blk_getL h2]; exact hE i h1)
        subst this
        simp only [decide_true]
        exact ⟨rfl, hb⟩
  · have tl : decide ((xs.length : Int) = (ys.length : Int)) = false := by simp; omega
    have : ¬ xs = ys := fun h => hl (by rw [h])
    go_enter Try.func144, Try.ntmps144
    go_wp2_with fail
    go_ret
    simp only [this, decide_false]
    exact ⟨rfl, Below.refl _ _⟩
theorem plane_same (c r c2 r2 : Int) (u v : Value) (xs ys : List (List Int)) (ha64 : Right64 xs) (hb64 : Right64 ys) (w : World) (hA : Ar w 64 u xs.length (bcells xs)) (hB : Ar w 64 v ys.length (bcells ys)) (hn : xs.length ≤ 9223372036854775806) :
    Calls Try.prog 129 #[.agg #[.int .i64 c, .int .i64 r, u], .agg #[.int .i64 c2, .int .i64 r2, v]] w fun e w' => e = .returned (.bool (decide (c = c2 ∧ r = r2 ∧ xs = ys))) ∧ Below w.heap.size w w' := by
  obtain ⟨au, ca, rfl, _, _⟩ := hA.len
  obtain ⟨bv, cb, rfl, _, _⟩ := hB.len
  obtain ⟨N, hN⟩ : ∃ N, N = w.heap.size := ⟨_, rfl⟩
  have HN := Lib.hid hN
  rw [← hN]
  clear hN
  go_enter Try.func129, Try.ntmps129
  go_upto_region 1 with fail
  refine wp_world (fun W => Blk W N #[.int .i64 c, .int .i64 r, .slice au xs.length ca] 61 ∧ Blk W (N + 1) #[.int .i64 c2, .int .i64 r2, .slice bv ys.length cb] 61 ∧ Below N w W ∧ N ≤ W.heap.size) ?_ ?_
  · rw [HN.out]
    exact ⟨(Blk.new _ _ _).alloc _, Blk.new' _ _ _ (by simp), ((Below.refl _ _).alloc (Nat.le_refl _) _).alloc (by simp) _, by simp; omega⟩
  have hhN := HN.out
  rw [← hhN]
  clear hhN
  rintro W0 ⟨b0, b1, hB0, hN0⟩
  have q0 := b0.cell 0
  have q1 := b0.cell 1
  have q2 := b0.cell 2
  have p0 := b1.cell 0
  have p1 := b1.cell 1
  have p2 := b1.cell 2
  have heq := blocks_equal _ _ xs ys ha64 hb64 W0 (hA.below (by rw [← HN.out]; exact hB0)) (hB.below (by rw [← HN.out]; exact hB0)) hn
  by_cases h1 : c = c2
  · by_cases h2 : r = r2
    · subst h1 h2
      go_wp2_with (go_at_call 144; refine heq.mono ?_; rintro e w1 ⟨rfl, hb1⟩)
      go_ret
      exact ⟨rfl, hB0.trans (hb1.mono hN0)⟩
    · have t2 : decide (r = r2) = false := by simpa using h2
      subst h1
      go_wp2_with fail
      go_ret
      exact ⟨by simp, hB0⟩
  · have t1 : decide (c = c2) = false := by simpa using h1
    go_wp2_with fail
    go_ret
    exact ⟨by simp [h1], hB0⟩
end Go.Proofs.Ytgmhhocpdfdplaa
/- A range over a function, over any program: what a round keeps; drawn regions of one value each within a round. No Go text. -/
namespace Go.Proofs.Ytgmhhocpdfdplaa
open Go.RowKit Go.Shelf
/-- What is cells and lies at M or beyond lies as it lay. -/
structure KeepC (M : Nat) (A B : World) : Prop where
  size : A.heap.size ≤ B.heap.size
  block : ∀ k cs t f, M ≤ k → A.heap[k]? = some (.cells cs t f) → B.heap[k]? = some (.cells cs t f)
theorem KeepC.refl (M : Nat) (A : World) : KeepC M A A := ⟨Nat.le_refl _, fun _ _ _ _ _ h => h⟩
theorem KeepC.trans {M : Nat} {A B C : World} (h : KeepC M A B) (k : KeepC M B C) : KeepC M A C := ⟨Nat.le_trans h.size k.size, fun i cs t f hi hA => k.block i cs t f hi (h.block i cs t f hi hA)⟩
theorem KeepC.put {M : Nat} (W : World) (l : Nat) (o o' : Obj) (h : W.heap[l]? = some o) (hc : o.isCells = false) : KeepC M W (W.putObj l o') :=
  ⟨by simp, fun k cs t f _ hk => (World.putObj_heap_other (fun e => by subst e; rw [h] at hk; cases hk; cases hc)).trans hk⟩
theorem KeepC.blk {M : Nat} {A B : World} (h : KeepC M A B) {g : Nat} {cs : Array Value} {t : TypeId} (hb : Blk A g cs t) (hg : M ≤ g) : Blk B g cs t := h.block g cs t _ hg hb
theorem KeepC.below {M : Nat} {A B : World} (h : Below A.heap.size A B) : KeepC M A B := ⟨h.size, fun k _ _ _ _ hk => (h.block k (Array.getElem?_eq_some_iff.1 hk).1).trans hk⟩
theorem KeepC.set {M : Nat} (A : World) (a : Addr) (v : Value) (ha : a.block < M) : KeepC M A (A.setCell a v) := ⟨by simp, fun k cs t f hk hA => (heap_setCell_other A a k v (by omega)).trans hA⟩
theorem Row.keepC {M : Nat} {A B : World} {lo : Nat} {e : TypeId} {size : Nat} {v : Value} {n : Nat} {xs : List Value} (h : Row A lo e size v n xs) (hk : KeepC M A B) (hM : M ≤ lo) : Row B lo e size v n xs := by
  refine ⟨h.1, ?_⟩
  rcases h.2 with h | ⟨g, cap, cur, h1, h2, h3, h4⟩
  · exact .inl h
  · exact .inr ⟨g, cap, cur, h1, h2, hk.blk h3 (by omega), h4⟩
theorem KeepsFrom.of_below {B : Nat} {W W' : World} (h : Below W.heap.size W W') : KeepsFrom B W W' := ⟨h.size, fun k _ _ hk _ => (h.block k (Array.getElem?_eq_some_iff.1 hk).1).trans hk⟩
/-- From W to W' whatever is cells lies as it lay (blocks that are no cells may have turned). -/
structure CellsOf (W W' : World) : Prop where
  size : W.heap.size ≤ W'.heap.size
  block : ∀ (k : Nat) cs t f, W.heap[k]? = some (.cells cs t f) → W'.heap[k]? = some (.cells cs t f)
theorem CellsOf.of {W W' : World} {row : Option Nat} (hg : W.grownBy W' row) (hr : ∀ r, row = some r → ∃ o : Obj, W.heap[r]? = some o ∧ o.isCells = false) : CellsOf W W' :=
  ⟨hg.size, fun k cs t f hk => (hg.block k (Array.getElem?_eq_some_iff.1 hk).1 (fun e => by obtain ⟨o, ho, hc⟩ := hr k e.symm; rw [hk] at ho; cases ho; cases hc)).trans hk⟩
theorem CellsOf.keepC {W W' : World} (h : CellsOf W W') (M : Nat) : KeepC M W W' := ⟨h.size, fun k cs t f _ hk => h.block k cs t f hk⟩
theorem CellsOf.blk {W W' : World} (h : CellsOf W W') {g : Nat} {cs : Array Value} {t : TypeId} (hb : Blk W g cs t) : Blk W' g cs t := h.block g cs t _ hb
/-- What abides by the cells alone. -/
theorem own_cells {β : Type} {I : β → World → Prop} (h : ∀ s W W', I s W → CellsOf W W' → I s W') : Own I := fun s W W' _ hs hg hr => h s W W' hs (CellsOf.of hg hr)
theorem own_blk {β : Type} (f : β → Array Value) (g : Nat) (t : TypeId) : Own (fun s W => Blk W g (f s) t) := own_cells fun _ _ _ h hc => hc.blk h
theorem ownFrom_size {β : Type} (B N : Nat) : OwnFrom B (fun (_ : β) (W : World) => N ≤ W.heap.size) := fun _ _ _ _ hs hg _ => Nat.le_trans hs hg.size
theorem keepC_t {M : Nat} {A B C : World} (h : KeepC M A B) (k : KeepC M B C) : KeepC M A C := h.trans k
theorem keepC_b {M : Nat} {w : World} (W : World) (l : Nat) (o o' : Obj) (_ : w.heap.size ≤ l) (h : W.heap[l]? = some o) (hc : o.isCells = false) (_ : o.isWalk = false) : KeepC M W (W.putObj l o') := KeepC.put W l o o' h hc
theorem rowsIn_round {P : Program} {row : String} {args : Array Value} {w : World} {R : Value → World → Prop} {l n : Nat} (h : Rows P row args w R) : RowsIn (Fence.wide.inRound l) n P row args w R :=
  fun c cs _ => let ⟨v, w', r, s⟩ := h c cs; ⟨v, w', r, stepsIn_wide.2 s⟩
/-- A walk of all orders outside rounds is one within a round, if no operation defers. -/
theorem wpAnyIn_of_wpAny {P : Program} {md : Region.Mode} {ops : Array Oper} {Q : Exit → Act → World → Prop} {l n : Nat} (hq : ¬ LetsOut Q) (hd : ops.all (fun o => match o.op with | .defer _ => false | _ => true) = true) :
    ∀ (fuel : Nat) (listed : Array Bool) (a : Act) (w : World), wpAny P md ops Q fuel listed a w → wpAnyIn (Fence.wide.inRound l) n P md ops Q fuel listed a w := by
  intro fuel
  induction fuel with
  | zero => intro listed a w h; exact h
  | succ fuel ih =>
    intro listed a w h
    refine ⟨h.1, fun i hi => ?_⟩
    have hw := h.2 i hi
    unfold wpOp at hw
    unfold wpOpIn
    split
    · rename_i ho
      rw [ho] at hw
      exact ih _ _ _ hw
    · rename_i o ho
      rw [ho] at hw
      simp only at hw
      split
      · rename_i hwt
        rw [if_pos hwt] at hw
        rcases hw with hw | ⟨_, hl⟩
        · have hmem : o ∈ ops := Array.mem_of_getElem? ho
          have hnd : ∀ c, o.op ≠ .defer c := by
            intro c hc
            rw [Array.all_eq_true_iff_forall_mem] at hd
            have := hd o hmem
            rw [hc] at this
            cases this
          unfold Oper.wpIn
          refine ⟨fun _ _ => trivial, ?_⟩
          rw [Oper.semAt_eq _ _ _ hnd]
          unfold Oper.wp at hw
          generalize (execOp a.eval o).run P w = r at *
          cases r with
          | ok x w' =>
            cases x <;> simp only [Oper.upon, Oper.uponIn] at hw ⊢ <;>
              first
                | exact ih _ _ _ hw
                | exact ⟨fun h => by simp [Fence.wide] at h, CallsIn.inRound l (callsIn_wide.2 (Calls.mono hw (fun e w'' he => by cases e <;> first | exact ih _ _ _ he | exact he)))⟩
                | exact ⟨fun h => by simp [Fence.wide] at h, RowsIn.mono (rowsIn_round hw) (fun v w'' he => ih _ _ _ he)⟩
                | exact hw.elim
                | skip
          | halt x w' => cases x <;> simp only [Oper.upon, Oper.uponIn] at hw ⊢ <;> exact hw
        · exact absurd hl hq
      · rename_i hwt
        rw [if_neg hwt] at hw
        exact ⟨fun _ _ => trivial, ih _ _ _ hw⟩
/-- 'wp_region_det' within a round. -/
theorem wpIn_region_det {P : Program} {id n r : Nat} {l : List Oper} {Q : Exit → Act → World → Prop} {a : Act} {w : World} (S : World → Prop) (hm : P.follows .mixedOrders = true)
    (hok : detOk l = true) (hd : l.toArray.all (fun o => match o.op with | .defer _ => false | _ => true) = true) (hq : ¬ LetsOut Q) (hS : S w.drew)
    (h : detList P l.toArray S (fun a => ∀ w, S w → Q .normal a w) l a) : (Code.region id l.toArray true).wpIn (Fence.wide.inRound r) n P Q a w := by
  simp only [detOk, Bool.and_eq_true] at hok
  have hdt := detAny_list (md := .any) (P := P) (S := S) hok.1 l 0 (Array.replicate l.length false) a (fun j => by simp) hok.2 h
  refine wpIn_region_any hm (wpAnyIn_of_wpAny hq hd _ _ _ _ ?_)
  have := detAny_sound (Q := Q) _ _ _ hdt w.drew hS
  simpa using this
section
variable {P : Program} {ops : Array Oper} {rest : List Oper} {o : Oper} {a : Act} {w : World} {Q : Exit → Act → World → Prop} {n : Nat}
/-- An operation outside rounds is one within a round (r), if it defers nothing. -/
theorem opIn_of_op (r : Option Nat) {K : Act → World → Prop} (hnd : ∀ c, o.op ≠ .defer c) (hw : o.wp P a w K (fun _ _ _ => False)) : o.wpIn { Fence.wide with round := r } n P a w K Q := by
  unfold Oper.wpIn
  refine ⟨fun _ _ => trivial, ?_⟩
  rw [Oper.semAt_eq _ _ _ hnd]
  unfold Oper.wp at hw
  generalize (execOp a.eval o).run P w = r at *
  cases r with
  | ok x w' =>
    cases x <;> simp only [Oper.upon, Oper.uponIn] at hw ⊢ <;>
      first
        | exact hw
        | exact ⟨fun h => by simp [Fence.wide] at h, CallsIn.mono (callsIn_wide.2 hw) (fun e w'' he => by cases e <;> first | exact he | exact he.elim | exact (he.elim fun _ h => h.elim fun _ h => h.elim))⟩
        | exact ⟨fun h => by simp [Fence.wide] at h, rowsIn_round (l := 0) hw⟩
        | exact hw.elim
        | skip
  | halt x w' => cases x <;> simp only [Oper.upon] at hw ⊢ <;> first | exact hw | exact hw.elim | exact (hw.elim fun _ h => h.elim fun _ h => h.elim)
theorem wpListIn_of_op {F : Fence} (hF : ∃ r, F = { Fence.wide with round := r }) (hg : o.guard = none) (hnd : ∀ c, o.op ≠ .defer c) (h : ∀ K : Act → World → Prop, (∀ a w, wpListIn F n P ops Q rest a w → K a w) → o.wp P a w K (fun _ _ _ => False)) :
    wpListIn F n P ops Q (o :: rest) a w := by
  obtain ⟨r, rfl⟩ := hF
  exact wpListIn_plain hg fun K hK => opIn_of_op r hnd (h K hK)
theorem wpListIn_load_row {F : Fence} (hF : ∃ r, F = { Fence.wide with round := r }) (hgd : o.guard = none) (ty : TypeId) (x : Operand) (ho : o.op = .load ty x)
    (g : Nat) (hx : a.eval x = .pointer (some ⟨g, 0, none⟩)) (t : TypeId) (cs : Array Value) (fr : Nat × Nat) (d : TypeDesc) (hg : w.heap[g]? = some (.cells cs t fr))
    (hu : P.underlying ty = some d) (hd : (match d with | .struct _ | .array _ _ => true | _ => false) = true) (hi : (P.info? ty).map (·.size) = some cs.size)
    (h : wpListIn F n P ops Q rest (a.put o.dst (.agg cs)) w) : wpListIn F n P ops Q (o :: rest) a w :=
  wpListIn_of_op hF hgd (by rw [ho]; intro c h; cases h) fun _ hK => wp_load_row ty x ho g hx t cs fr d hg hu hd hi (hK _ _ h)
theorem wpListIn_store_row {F : Fence} (hF : ∃ r, F = { Fence.wide with round := r }) (hgd : o.guard = none) (ty : TypeId) (x y : Operand) (ho : o.op = .store ty x y)
    (g : Nat) (cells : Array Value) (hx : a.eval x = .pointer (some ⟨g, 0, none⟩)) (hy : a.eval y = .agg cells)
    (t : TypeId) (old : Array Value) (hg : w.heap[g]? = some (.cells old t (0, 0))) (hi : (P.info? ty).map (·.size) = some cells.size)
    (hold : old.size = cells.size) (h1 : cells.all (·.oneCell') = true)
    (h : wpListIn F n P ops Q rest (a.put o.dst undef) (w.setRow g cells)) : wpListIn F n P ops Q (o :: rest) a w :=
  wpListIn_of_op hF hgd (by rw [ho]; intro c h; cases h) fun _ hK => wp_store_row ty x y ho g cells hx hy t old hg hi hold h1 (hK _ _ h)
end
section
variable {F : Fence} {n : Nat} {P : Program} {fn : Func} {R : Ending → World → Prop} {tmps : Array Value} {w : World} {v : Value}
theorem leave_plain (h : (results fn tmps).run P w = .ok v w) (hR : R (.returned v) w) : bodyPostM F n P fn R .ret { tmps := tmps, defers := [] } w := ⟨v, h, hR⟩
theorem leave_mark {D : Nat} (hK : w.heap[D]? = some (.deferred (some []))) (h : (results fn tmps).run P (w.putObj D (.deferred none)) = .ok v (w.putObj D (.deferred none))) (hR : R (.returned v) (w.putObj D (.deferred none))) :
    bodyPostM F n P fn R .ret { tmps := tmps, defers := [{ target := .collected D, args := #[] }] } w :=
  ⟨by simp, .inl ⟨D, _, rfl, run_takeDeferred hK, ⟨v, h, hR⟩⟩⟩
theorem Blk.putObj {g D : Nat} {cs : Array Value} {t : TypeId} {o o' : Obj} (h : Blk w g cs t) (hK : w.heap[D]? = some o) (hc : o.isCells = false) : Blk (w.putObj D o') g cs t :=
  (World.putObj_heap_other (fun e => by subst e; rw [h] at hK; cases hK; cases hc)).trans h
theorem results_box {p : Tmp} {ty : TypeId} (h : fn.results = #[.cell p ty]) (tmps : Array Value) (w : World) (g : Nat) (t : TypeId) (v : Value) (hp : tmps.getD p undef = .pointer (some ⟨g, 0, none⟩)) (hg : Blk w g #[v] t)
    (hl : ∀ w : World, w.cell? ⟨g, 0, none⟩ = some v → (loadVar ty ⟨g, 0, none⟩).run P w = .ok v w) : (results fn tmps).run P w = .ok v w := by
  have hp' : tmps[p]?.getD undef = .pointer (some ⟨g, 0, none⟩) := by simpa using hp
  simp [results, h, hp', asAddr, hl w (hg.cell 0)]
end
/-- A range over a function whose loop variable lies in a box that each round makes anew: the slots that the round sets, by the element and the box. -/
theorem wp_rangeFunc_box {α : Type} {P : Program} {n : Nat} {g : Operand} {ps : Array Tmp} {assign body : Code} {Q : Exit → Act → World → Prop} {a : Act} {w : World} (sl : α → Nat → List (Nat × Value)) (c : Nat) (cs : α → Array Value) (t : TypeId)
    (h1 : 1 ≤ n) {gf : Nat} {lb : Array Value} (hg : a.eval g = .func (.func gf) #[] lb) (eg : ∀ args w, (callFunc gf args).run P w = .ok (.enter gf args) w)
    {encs : α → Array Value} {S Sp : List α → Prop} {N : Nat} (hseq : SeqStopsK Fence.wide (n - 1) P gf lb encs (KeepC w.heap.size) S Sp N w) (hps : ∀ x, (encs x).size = ps.size)
    (I : List α → World → Prop) (Ix : Code → List α → World → Prop) (hI : OwnFrom w.heap.size I) (hIx : ∀ c, OwnFrom w.heap.size (Ix c)) (h0 : I [] w)
    (hassign : ∀ (l : Nat) (pre : List α) (x : α) (W : World) (K : Act → World → Prop), I pre W → (∀ a' W', Below W.heap.size W W' → I pre W' → (∃ Bx, c < Bx ∧ Blk W' Bx (cs x) t ∧ a' = { tmps := (sl x Bx).foldl (fun t (p : Nat × Value) => t.setIfInBounds p.1 p.2) a.tmps, defers := [] }) → K a' W') →
      assign.wpIn (Fence.wide.inRound l) (n - 1 - 1) P (Exit.then K (fun _ _ _ => False)) { tmps := (ps.zip (encs x)).foldl (fun t (p, v) => t.setIfInBounds p v) a.tmps, defers := [] } W)
    (hbody : ∀ (l : Nat) (pre : List α) (x : α) (Bx : Nat) (W : World), w.heap.size ≤ l → I pre W → c < Bx → Blk W Bx (cs x) t → pre.length < N → body.wpIn (Fence.wide.inRound l) (n - 1 - 1) P (ownPostG w.heap.size (KeepC w.heap.size) I Ix (pre ++ [x]) W) { tmps := (sl x Bx).foldl (fun t (p : Nat × Value) => t.setIfInBounds p.1 p.2) a.tmps, defers := [] } W)
    (hdone : ∀ (D : Nat) (xs : List α) (W : World), w.heap.size ≤ D → S xs → I xs W → W.heap[D]? = some (.deferred (some [])) → Q .normal { a with defers := { target := .collected D, args := #[] } :: a.defers } W)
    (hstop : ∀ (D : Nat) (c : Code) (pre : List α) (W : World), w.heap.size ≤ D → Sp pre → Ix c pre W → W.heap[D]? = some (.deferred (some [])) → c.wp P Q { a with defers := { target := .collected D, args := #[] } :: a.defers } W) :
    (Code.rangeFunc g ps assign body).wp P Q a w :=
  (wpIn_wide (n := n)).1 (wpIn_rangeFunc_ownH (F := Fence.wide) rfl h1 hg trivial eg hseq keepC_t keepC_b (Below.refl _ _) hps I Ix hI hIx h0
    (fun x a' W => ∃ Bx, c < Bx ∧ Blk W Bx (cs x) t ∧ a' = { tmps := (sl x Bx).foldl (fun t (p : Nat × Value) => t.setIfInBounds p.1 p.2) a.tmps, defers := [] })
    (fun _ _ _ _ _ _ hs hg hr => by obtain ⟨Bx, h1, h2, h3⟩ := hs; exact ⟨Bx, h1, (CellsOf.of hg (fun r e => (hr r e).2)).blk h2, h3⟩)
    (fun l pre x W K hi hK => hassign l pre x W K hi (fun a' W' hb hI' hx => hK a' W' (KeepsFrom.of_below hb) (KeepC.below hb) hI' hx))
    (fun l pre x a' W hl _ hi hx hlt => by obtain ⟨Bx, h1, h2, rfl⟩ := hx; exact hbody l pre x Bx W hl hi h1 h2 hlt)
    hdone (fun D c pre W h1 h2 h3 h4 => wpIn_wide.2 (hstop D c pre W h1 h2 h3 h4)))
end Go.Proofs.Ytgmhhocpdfdplaa
/- 'wp_region_mono' in a fence (an iterator's own body, a round): the front's operations only read one fixed world, in any order; the rest comes in one order. Over any program. -/
namespace Go.Proofs.Ytgmhhocpdfdplaa
open Go.RowKit Go.Shelf
section
variable {P : Program} {ops : Array Oper} {md : Region.Mode} {dep : Nat → List Nat} {Fr : Nat → Bool} {Q : Exit → Act → World → Prop} {m : Nat}
theorem detM_soundIn (r : Option Nat) (w : World) (k : Nat) (hnd : ∀ i o, ops[i]? = some o → Fr i = true → ∀ c, o.op ≠ .defer c)
    (htail : ∀ i, i < ops.size → ¬ Fr i = true → ∀ j, Fr j = true → j ∈ mark md ops (List.range i).reverse (edgesOf md ops i)) :
    ∀ (n : Nat) (listed : Array Bool) (a : Act) (Fs : Nat → Option Fact), Closed md ops listed →
      detM P md ops (fun W => W = w) (fun _ => none) dep Fr (fun listed a _ => wpAnyIn { Fence.wide with round := r } m P md ops Q k listed a w) n listed a Fs → wpAnyIn { Fence.wide with round := r } m P md ops Q (n + k) listed a w
  | 0, listed, a, Fs, _, h => by rw [Nat.zero_add]; exact h.2
  | n + 1, listed, a, Fs, hcl, h => by
    obtain ⟨⟨i0, hi0, hi0m⟩, h⟩ := h
    rw [Nat.add_right_comm]
    refine ⟨fun hr => (by rw [hr] at hi0; cases hi0), fun i hi => ?_⟩
    by_cases him : Fr i = true
    · obtain ⟨o, ho, hst⟩ := h i hi him
      unfold wpOpIn
      simp only [ho]
      rcases hst with ⟨hw, hst⟩ | ⟨hw, v, hv, hst⟩
      · simp only [hw, Bool.false_eq_true, if_false]
        exact ⟨fun _ _ => trivial, detM_soundIn r w k hnd htail n _ _ Fs (hcl.set hi) hst⟩
      · simp only [hw, if_true]
        refine opIn_of_op r (hnd i o ho him) ?_
        unfold Oper.wp
        rw [hv w rfl]
        exact detM_soundIn r w k hnd htail n _ _ Fs (hcl.set hi) hst
    · exfalso
      obtain ⟨_, o, ho, hall⟩ := mem_ready.1 hi
      have hm := htail i (Array.getElem?_eq_some_iff.1 ho).1 him i0 hi0m
      have h1 := mark_listed hcl _ _ (fun x hx => by
        obtain ⟨e, he, hb, rfl⟩ := (mem_edgesOf ho).1 hx
        exact hall e he hb) i0 hm
      have h0 := (mem_ready.1 hi0).1
      rcases Nat.lt_or_ge i0 listed.size with h' | h'
      · simp [h'] at h0 h1; rw [h0] at h1; cases h1
      · simp [Array.getElem?_eq_none h'] at h1
theorem wpAnyIn_tail (F : Fence) : ∀ (tl : List Nat) (l : List Oper) (listed : Array Bool) (a : Act) (w : World), tl.map (fun i => ops[i]?) = l.map some → tailOrder md ops tl listed = true → wpListIn F m P ops Q l a w → wpAnyIn F m P md ops Q tl.length listed a w
  | [], [], listed, a, w, _, ht, h => by
    simp only [tailOrder, beq_iff_eq] at ht
    exact ⟨ht, h⟩
  | [], _ :: _, _, _, _, hl, _, _ => by simp at hl
  | _ :: _, [], _, _, _, hl, _, _ => by simp at hl
  | i :: tl, o :: l, listed, a, w, hl, ht, h => by
    simp only [List.map_cons, List.cons.injEq] at hl
    obtain ⟨h0, hl⟩ := hl
    simp only [tailOrder, Bool.and_eq_true, beq_iff_eq] at ht
    refine ⟨fun hr => (by rw [ht.1] at hr; cases hr), fun j hj => ?_⟩
    rw [ht.1] at hj
    simp only [List.mem_singleton] at hj
    subst hj
    have ih := fun a w => wpAnyIn_tail F tl l (listed.setIfInBounds j true) a w hl ht.2
    unfold wpOpIn
    simp only [h0]
    unfold wpListIn at h
    split
    · rename_i hw
      rw [if_pos hw] at h
      exact Oper.wpIn_mono (fun a w => ih a w) h
    · rename_i hw
      rw [if_neg hw] at h
      exact ⟨h.1, ih _ _ h.2⟩
end
theorem wpIn_region_mono {P : Program} {id m : Nat} {l : List Oper} {Q : Exit → Act → World → Prop} {a : Act} {w : World} (r : Option Nat) (ord tl : List Nat) (hm : P.follows .mixedOrders = true)
    (hok : monoOk (fun _ => []) ord tl l = true) (hd : ord.all (fun i => match (l.getD i default).op with | .defer _ => false | _ => true) = true)
    (h : monoL P l.toArray (fun W => W = w.drew) (fun _ => none) (fun _ => []) (fun a _ => wpListIn { Fence.wide with round := r } m P l.toArray Q (pick l tl) a w.drew) (ord.zip (pick l ord)) a (fun _ => none)) :
    (Code.region id l.toArray true).wpIn { Fence.wide with round := r } m P Q a w := by
  simp only [monoOk, Bool.and_eq_true, decide_eq_true_eq, List.all_eq_true, Bool.or_eq_true, List.mem_range, List.contains_iff_mem, Bool.not_eq_true'] at hok
  obtain ⟨⟨⟨⟨⟨⟨⟨hsel, hlen⟩, htl⟩, hord⟩, hfront⟩, hready⟩, htail⟩, hedge⟩ := hok
  have hzip := zip_pick l ord hord
  have h := monoL_list _ hzip.2 _ _ h
  rw [hzip.1] at h
  have hdt := detM_list (md := .any) (P := P) (G := fun W => W = w.drew) (sp := fun _ => none) (dep := fun _ => []) (Fr := fun j => ord.contains j) (ops := l.toArray) ⟨_, rfl⟩ hsel _ ord (Array.replicate l.length false) a (fun _ => none)
    (fun i hi => by simpa using hi) (fun j hj hc => by have := hready j hj; rw [hc] at this; cases this) hfront h
  have hfin : ∀ (n : Nat) (listed : Array Bool) (a : Act) (Fs : Nat → Option Fact), detM P .any l.toArray (fun W => W = w.drew) (fun _ => none) (fun _ => []) (fun j => ord.contains j) (fun li a _ => li = setAll ord (Array.replicate l.length false) ∧ wpListIn { Fence.wide with round := r } m P l.toArray Q (pick l tl) a w.drew) n listed a Fs →
      detM P .any l.toArray (fun W => W = w.drew) (fun _ => none) (fun _ => []) (fun j => ord.contains j) (fun li a _ => wpAnyIn { Fence.wide with round := r } m P .any l.toArray Q tl.length li a w.drew) n listed a Fs := by
    intro n
    induction n with
    | zero =>
      intro listed a Fs h
      refine ⟨h.1, ?_⟩
      obtain ⟨_, rfl, h2⟩ := h
      exact wpAnyIn_tail (P := P) (md := .any) (Q := Q) (ops := l.toArray) _ tl (pick l tl) _ a _ (pick_spec l tl htl) htail h2
    | succ n ih =>
      intro listed a Fs h
      exact ⟨h.1, fun i hi him => by obtain ⟨o, ho, hs⟩ := h.2 i hi him; exact ⟨o, ho, hs.mono fun a' Fs' h' => ih _ a' Fs' h'⟩⟩
  have hs := detM_soundIn (P := P) (Q := Q) (md := .any) (m := m) r w.drew tl.length (fun i o ho hi c hc => by
      have h1 := hd
      simp only [List.all_eq_true] at h1
      have h2 := h1 i (by simpa using hi)
      have h3 : l.getD i default = o := by
        rw [List.getElem?_toArray] at ho
        rw [List.getD_eq_getElem?_getD, ho]; rfl
      rw [h3, hc] at h2
      cases h2) (fun i hi hmi j hj => by
    rcases hedge i (by simpa using hi) with h1 | h1
    · exact absurd (by simpa using h1) hmi
    · exact h1 j (by simpa using hj)) ord.length (Array.replicate l.length false) a (fun _ => none)
    (fun k hk => by simp [Array.getElem?_replicate] at hk; split at hk <;> simp at hk) (hfin _ _ _ _ hdt)
  refine wpIn_region_any hm ?_
  have e : ord.length + tl.length = l.toArray.size := by simpa using hlen
  rw [e] at hs
  simpa using hs
end Go.Proofs.Ytgmhhocpdfdplaa
/- Package plane's iterator over all blocks, as a contract for ranges over it. -/
namespace Go.Proofs.Ytgmhhocpdfdplaa
open Go.RowKit Go.Shelf
attribute [local go_sem] Oper.semAt_some
set_option maxRecDepth 100000
section
variable {P : Program} {ops : Array Oper} {rest : List Oper} {o : Oper} {a : Act} {w : World} {Q : Exit → Act → World → Prop} {n : Nat}
theorem wpListIn_runTo {F : Fence} (hF : ∃ r, F = { Fence.wide with round := r }) (hg : o.guard = none) (hnd : ∀ c, o.op ≠ .defer c) (v : Value) (w' : World) (hrun : (execOp a.eval o).run P w = .ok (.value v) w')
    (h : wpListIn F n P ops Q rest (a.put o.dst v) w') : wpListIn F n P ops Q (o :: rest) a w :=
  wpListIn_of_op hF hg hnd fun K hK => by
    unfold Oper.wp
    rw [hrun]
    exact hK _ _ h
end
theorem wpIn_world {F : Fence} {n : Nat} {P : Program} {c : Code} {Q : Exit → Act → World → Prop} {a : Act} {w : World} (I : World → Prop) (h : I w) (k : ∀ W, I W → c.wpIn F n P Q a W) : c.wpIn F n P Q a w := k w h
/-- The method value: the plane is boxed. -/
theorem plane_all (c r : Int) (u : Value) (w : World) : Calls Try.prog 77 #[.agg #[.int .i64 c, .int .i64 r, u]] w fun e w' => e = .returned (.func (.func 128) #[] #[.pointer (some ⟨w.heap.size, 0, none⟩)]) ∧ w' = w.alloc (.cells #[.int .i64 c, .int .i64 r, u] 61) := by
  go_enter Try.func77, Try.ntmps77
  go_wp2_with fail
  go_ret
  exact ⟨rfl, rfl⟩
namespace Pl
/-- What a plane's iterator hands out at number i: a place and a block. -/
def encs (c : Nat) (bs : List (List Int)) (i : Nat) : Array Value := #[.agg #[.int .i64 ((i : Int) / (c : Int)), .int .i64 ((i : Int) % (c : Int)), .int .i64 1, .int .i64 1], .agg (ints .i16 (blk bs i))]
theorem range_succ (n i : Nat) (h : i < n) : (List.range n).take (i + 1) = (List.range n).take i ++ [i] := by
  rw [List.take_add_one]
  simp [h]
/-- How many blocks are handed out. -/
def many (c r : Int) (n : Nat) : Nat := if right c r n then n else 0
end Pl
set_option maxHeartbeats 2000000 in
theorem plane_stops_no (M n : Nat) (c r : Int) (bs : List (List Int)) (bu : Option Addr) (m cap : Nat) (hr : Pl.right c r m = false) (Bn : Nat) (w : World) (hb : Blk w Bn #[.int .i64 c, .int .i64 r, .slice bu m cap] 61) :
    SeqStopsK Fence.wide n Try.prog 128 #[.pointer (some ⟨Bn, 0, none⟩)] (Pl.encs c.toNat bs) (KeepC M) (fun ys => ys = List.range 0) (fun pre => pre <+: List.range 0) 0 w := by
  intro lp J Jx W hW hJ hJx hY h0
  have hb' := hb.below hW hb.lt
  refine callsIn_of_wp Try.func128 rfl trivial ?_ rfl
  simp only [Try.ntmps128, List.size_toArray, List.length_cons, List.length_nil, Nat.reduceAdd, Nat.reduceSub, Array.replicate_succ, Array.replicate_zero, List.push_toArray, List.append_toArray, List.nil_append, List.cons_append]
  gi_wp2_with (refine wpListIn_load_row ⟨none, rfl⟩ rfl 61 _ rfl Bn rfl 61 _ _ _ hb' Try.underlying61 rfl (by kernel_rfl) ?_)
  refine ⟨trivial, fun h => (by cases h), ?_⟩
  refine (callsIn_wide.2 (plane_right c r m bu cap W)).mono ?_
  rintro e w3 ⟨rfl, hB⟩
  rw [hr]
  gi_wp2
  refine bodyPost_ret (results_none rfl _ _ _) rfl ?_
  exact ⟨⟨_, rfl⟩, .inl ⟨List.range 0, rfl, hJ _ _ _ none h0 ⟨hB.os, hB.tape, hB.output, hB.size, fun k hk _ => hB.block k hk⟩ (fun r e => by cases e)⟩⟩
set_option maxHeartbeats 4000000 in
theorem plane_stops (M n : Nat) (c r : Nat) (u : Value) (bs : List (List Int)) (h64 : Right64 bs) (hr : Pl.right c r bs.length = true) (Bn : Nat) (w : World) (hM : M ≤ Bn) (hb : Blk w Bn #[.int .i64 c, .int .i64 r, u] 61) (hA : Ar w 64 u bs.length (bcells bs)) :
    SeqStopsK Fence.wide n Try.prog 128 #[.pointer (some ⟨Bn, 0, none⟩)] (Pl.encs c bs) (KeepC M) (fun ys => ys = List.range bs.length) (fun pre => pre <+: List.range bs.length) bs.length w := by
  intro lp J Jx W hW hJ hJx hY h0
  have hb' := hb.below hW hb.lt
  have hA' := hA.below hW
  have hMW : M ≤ W.heap.size := Nat.le_trans hM (Nat.le_trans (Nat.le_of_lt hb.lt) hW.size)
  obtain ⟨bu, cap, rfl, hcap, hcm⟩ := hA.len
  have hsz : 1 ≤ c ∧ bs.length ≤ 16384 := by
    unfold Pl.right at hr
    simp only [Bool.and_eq_true, beq_iff_eq] at hr
    have := Pl.sized_ok hr.1
    omega
  obtain ⟨hc1, hn⟩ := hsz
  refine callsIn_of_wp Try.func128 rfl trivial ?_ rfl
  simp only [Try.ntmps128, List.size_toArray, List.length_cons, List.length_nil, Nat.reduceAdd, Nat.reduceSub, Array.replicate_succ, Array.replicate_zero, List.push_toArray, List.append_toArray, List.nil_append, List.cons_append]
  gi_wp2_with (refine wpListIn_load_row ⟨none, rfl⟩ rfl 61 _ rfl Bn rfl 61 _ _ _ hb' Try.underlying61 rfl (by kernel_rfl) ?_)
  refine ⟨trivial, fun h => (by cases h), ?_⟩
  refine (callsIn_wide.2 (plane_right c r bs.length bu cap W)).mono ?_
  rintro e w2 ⟨rfl, hB2⟩
  rw [hr]
  have hb2 := hb'.below hB2 hb'.lt
  have hA2 := hA'.below hB2
  have q2 := hb2.cell 2
  gi_wp2
  refine ⟨trivial, fun h => (by cases h), ?_⟩
  refine (callsIn_wide.2 (blocks_clone _ _ _ (by omega) w2 hA2 (bcells_one _))).mono ?_
  rintro e w3 ⟨uc, rfl, hR, hB3⟩
  obtain ⟨gc, cc, rfl⟩ := hR.len
  have hb3 := hb2.below hB3 hb2.lt
  have hB := hB2.trans (hB3.mono hB2.size)
  have hRW := hR.down (lo' := W.heap.size) hB2.size
  gi_wp2
  gi_loopw [12] (fun v wr => ∃ i : Nat, v = .int .i64 i ∧ i ≤ bs.length ∧ J ((List.range bs.length).take i) wr ∧ Row wr W.heap.size 57 64 (.slice gc bs.length cc) bs.length (bcells bs) ∧ Blk wr Bn #[.int .i64 c, .int .i64 r, .slice bu bs.length cap] 61)
    (fun v wr => bs.length - (intOf v).toNat)
  case atStart =>
    refine ⟨0, rfl, Nat.zero_le _, ?_, hRW, hb3⟩
    simp only [List.take_zero]
    exact hJ _ _ _ none h0 ⟨hB.os, hB.tape, hB.output, hB.size, fun k hk _ => hB.block k hk⟩ (fun r e => by cases e)
  case round =>
    obtain ⟨i, rfl, hi, hJi, hRi, hbi⟩ := hrel
    have tb : decide ((i : Int) < (bs.length : Int)) = decide (i < bs.length) := by simp
    by_cases hlt : i < bs.length
    · have tt : decide ((i : Int) < (bs.length : Int)) = true := by simpa using hlt
      obtain ⟨g, cap2, hu, hgl, hgs, _⟩ := hRi.cells (by omega)
      cases hu
      have hx0 : (0 : Int) ≤ (i : Int) := by omega
      have hx1 : (i : Int) < (bs.length : Int) := by omega
      have hsucc := Pl.range_succ bs.length i hlt
      have hc0 : ¬ (c : Int) = 0 := by omega
      have hx := Pl.blk_get hlt
      have hx64 := Pl.blk_len h64 i
      have henc : Pl.encs c bs i = #[.agg #[.int .i64 ((i : Int) / (c : Int)), .int .i64 ((i : Int) % (c : Int)), .int .i64 1, .int .i64 1], .agg (ints .i16 (Pl.blk bs i))] := rfl
      have HE := Lib.hid henc
      clear henc
      generalize Pl.blk bs i = x at hx hx64 HE
      obtain ⟨S, hS⟩ : ∃ S, S = wr.heap.size := ⟨_, rfl⟩
      have hRa := hRi.ar
      have hBa : Below wr.heap.size wr ((wr.alloc (.cells (ints .i16 (List.replicate 64 0)) 57)).setRow S (ints .i16 x)) := Below.setRow ((Below.refl _ _).alloc (Nat.le_refl _) _) (by rw [hS]; exact Nat.le_refl _) _
      have bZ : Blk (wr.alloc (.cells (ints .i16 (List.replicate 64 0)) 57)) S (ints .i16 (List.replicate 64 0)) 57 := Blk.new' _ _ _ hS
      have bX := bZ.row (ints .i16 x)
      have hRb := hRi.grow hBa
      have hbb := hbi.below hBa hbi.lt
      gi_wp2_with (first | (refine wpListIn_runTo ⟨none, rfl⟩ rfl (by intro c h; cases h) _ _ (ar_loadx hRa h64 i hlt x hx _ rfl (by show _ = Value.pointer (some (Addr.add ⟨g, 0, none⟩ (i * 64))); rw [Addr.add_mid, Nat.zero_add]; rfl)) ?_) | (refine wpListIn_store_row ⟨none, rfl⟩ rfl 57 _ _ rfl wr.heap.size _ rfl rfl 57 _ (hS ▸ bZ) (by rw [ints_size, hx64]; kernel_rfl) (by rw [ints_size, ints_size, hx64]; rfl) (ints_one _ _) ?_))
      refine wpIn_world (fun W' => J ((List.range bs.length).take i) W' ∧ Row W' W.heap.size 57 64 (.slice (some ⟨g, 0, none⟩) bs.length cc) bs.length (bcells bs) ∧ Blk W' Bn #[.int .i64 c, .int .i64 r, .slice bu bs.length cap] 61 ∧ Blk W' S (ints .i16 x) 57)
        (by subst hS; exact ⟨hJ _ _ _ none hJi ⟨hBa.os, hBa.tape, hBa.output, hBa.size, fun k hk _ => hBa.block k hk⟩ (fun r e => by cases e), hRb, hbb, bX⟩) ?_
      rw [← hS]
      clear hBa bZ bX hRb hbb hRa hRi hJi hbi
      rintro W4 ⟨hJ4, hR4, hb4, hX4⟩
      refine wpIn_region_mono none [0, 1, 2, 3, 4, 5, 6, 7, 8, 9, 10] [11, 12] (by kernel_rfl) (by kernel_rfl) (by kernel_rfl) ?_
      simp only [pick, List.getD_cons_succ, List.getD_cons_zero, List.zip_cons_cons, List.zip_nil_right]
      (repeat (first | (refine mono_skip (by rfl) ?_; simp only [Act.put, List.setIfInBounds_toArray, List.set_cons_zero, List.set_cons_succ]) | (refine mono_pure (v := ?_) (by rfl) rfl ?_ ?_; rotate_left; (intro wS hS; go_simp; try with_reducible rfl); simp only [Act.put, List.setIfInBounds_toArray, List.set_cons_zero, List.set_cons_succ])))
      refine mono_pure (v := .int .i64 c) (by rfl) rfl (fun w1 hS => by subst hS; have cy := hb4.cell 0; go_simp; try with_reducible rfl) ?_
      simp only [Act.put, List.setIfInBounds_toArray, List.set_cons_zero, List.set_cons_succ]
      (repeat (first | (refine mono_skip (by rfl) ?_; simp only [Act.put, List.setIfInBounds_toArray, List.set_cons_zero, List.set_cons_succ]) | (refine mono_pure (v := ?_) (by rfl) rfl ?_ ?_; rotate_left; (intro wS hS; go_simp; try with_reducible rfl); simp only [Act.put, List.setIfInBounds_toArray, List.set_cons_zero, List.set_cons_succ])))
      have hcN : ¬ c = 0 := by omega
      have hq1 : IntKind.i64.wrap ((i : Int) / (c : Int)) = (i : Int) / (c : Int) := by
        have := IntWalk.i64_quo i c (by omega)
        rwa [Int.tdiv_eq_ediv_of_nonneg (by omega)] at this
      refine mono_pure (v := .int .i64 ((i / c : Nat) : Int)) (by rfl) rfl (fun w1 hS => by subst hS; go_simp) ?_
      simp only [Act.put, List.setIfInBounds_toArray, List.set_cons_zero, List.set_cons_succ]
      (repeat (first | (refine mono_skip (by rfl) ?_; simp only [Act.put, List.setIfInBounds_toArray, List.set_cons_zero, List.set_cons_succ]) | (refine mono_pure (v := ?_) (by rfl) rfl ?_ ?_; rotate_left; (intro wS hS; go_simp; try with_reducible rfl); simp only [Act.put, List.setIfInBounds_toArray, List.set_cons_zero, List.set_cons_succ])))
      refine mono_pure (v := .int .i64 c) (by rfl) rfl (fun w1 hS => by subst hS; have cy := hb4.cell 0; go_simp; try with_reducible rfl) ?_
      simp only [Act.put, List.setIfInBounds_toArray, List.set_cons_zero, List.set_cons_succ]
      (repeat (first | (refine mono_skip (by rfl) ?_; simp only [Act.put, List.setIfInBounds_toArray, List.set_cons_zero, List.set_cons_succ]) | (refine mono_pure (v := ?_) (by rfl) rfl ?_ ?_; rotate_left; (intro wS hS; go_simp; try with_reducible rfl); simp only [Act.put, List.setIfInBounds_toArray, List.set_cons_zero, List.set_cons_succ])))
      refine mono_pure (v := .agg (ints .i16 x)) (by rfl) rfl (fun w1 hS' => by subst hS'; exact run_exec_load_row 57 _ rfl S rfl 57 _ _ hX4.drew Try.underlying57 rfl (by rw [ints_size, hx64]; kernel_rfl)) ?_
      simp only [Act.put, List.setIfInBounds_toArray, List.set_cons_zero, List.set_cons_succ]
      refine mono_nil ?_
      obtain ⟨fn, tmps, assign, body, hy, hRd⟩ := hY ((List.range bs.length).take i) i W4.drew
        (hJ _ _ _ none hJ4 ⟨rfl, rfl, rfl, Nat.le_refl _, fun k hk _ => rfl⟩ (fun r e => by cases e)) (by rw [List.length_take, List.length_range]; omega)
      rw [HE.out] at hy
      gi_wp2
      simp only [hy, Oper.uponIn_round]
      refine ⟨fun h => (by cases h), hRd.mono ?_⟩
      rintro e W5 (⟨rfl, hJ5, hk5⟩ | ⟨rfl, hJx5⟩)
      · have hR5 := hR4.grow (Below.refl _ _).drew
        gi_wp2
        go_roundw
        case rel =>
          refine ⟨i + 1, rfl, hlt, by rw [hsucc]; exact hJ5, hR5.keepC hk5 (by omega), hk5.blk hb4.drew hM⟩
        case measure =>
          simp only [intOf]
          omega
      · gi_wp2
        refine bodyPost_ret (results_none rfl _ _ _) rfl ?_
        exact ⟨⟨_, rfl⟩, .inr ⟨(List.range bs.length).take (i + 1), List.take_prefix _ _, by rw [hsucc]; exact hJx5⟩⟩
    · have tf : decide ((i : Int) < (bs.length : Int)) = false := by simpa using hlt
      gi_wp2
      go_end0
      obtain rfl : i = bs.length := by omega
      rw [List.take_of_length_le (by rw [List.length_range]; exact Nat.le_refl _)] at hJi
      exact ⟨⟨_, rfl⟩, .inl ⟨_, rfl, hJi⟩⟩
theorem plane_stops_any (M n : Nat) (c r : Int) (u : Value) (bs : List (List Int)) (h64 : Right64 bs) (Bn : Nat) (w : World) (hM : M ≤ Bn) (hb : Blk w Bn #[.int .i64 c, .int .i64 r, u] 61) (hA : Ar w 64 u bs.length (bcells bs)) :
    SeqStopsK Fence.wide n Try.prog 128 #[.pointer (some ⟨Bn, 0, none⟩)] (Pl.encs c.toNat bs) (KeepC M) (fun ys => ys = List.range (Pl.many c r bs.length)) (fun pre => pre <+: List.range (Pl.many c r bs.length)) (Pl.many c r bs.length) w := by
  unfold Pl.many
  by_cases hr : Pl.right c r bs.length = true
  · rw [if_pos hr]
    have hs : 1 ≤ c ∧ 1 ≤ r := by
      unfold Pl.right at hr
      simp only [Bool.and_eq_true, beq_iff_eq] at hr
      have := Pl.sized_ok hr.1
      omega
    obtain ⟨c, rfl⟩ : ∃ k : Nat, c = k := ⟨c.toNat, by omega⟩
    obtain ⟨r, rfl⟩ : ∃ k : Nat, r = k := ⟨r.toNat, by omega⟩
    exact plane_stops M n c r u bs h64 hr Bn w hM hb hA
  · rw [if_neg hr]
    obtain ⟨bu, cap, rfl, _, _⟩ := hA.len
    exact plane_stops_no M n c r bs bu bs.length cap (by simpa using hr) Bn w hb
end Go.Proofs.Ytgmhhocpdfdplaa
/- A sheet's At; a plane's sheet (Of). -/
namespace Go.Proofs.Ytgmhhocpdfdplaa
open Go.RowKit
set_option maxRecDepth 100000
set_option maxHeartbeats 4000000
theorem sheet_at_no (lo b c r : Nat) (u : Value) (bs : List (List Int)) (row col : Int) (hn : ¬ Pl.isIn c r row col) (w : World) (h : Pl.Sheet w lo b c r u bs) :
    Calls Try.prog 146 #[.pointer (some ⟨b, 0, none⟩), .int .i64 row, .int .i64 col] w fun e w' => e = .returned (.tuple #[.agg (ints .i16 (List.replicate 64 0)), .bool false]) ∧ Below w.heap.size w w' := by
  obtain ⟨bu, cu, rfl⟩ := h.row.len
  obtain ⟨N, hN⟩ : ∃ N, N = w.heap.size := ⟨_, rfl⟩
  have HN := Lib.hid hN
  rw [← hN]
  have hbN : b < N := by rw [hN]; exact h.box.lt
  clear hN
  go_enter Try.func146, Try.ntmps146
  go_upto_region 1 with (refine Great.wpList_runTo rfl _ rfl _ _ (run_alloc_blk _ rfl) ?_)
  refine wp_world (fun W => Blk W N (ints .i16 (List.replicate 64 0)) 57 ∧ Below N w W) ⟨Blk.new' _ _ _ HN.out, (Below.refl _ _).alloc (by rw [HN.out]; exact Nat.le_refl _) _⟩ ?_
  rintro W0 ⟨b0, hB⟩
  rw [← HN.out]
  have hb1 := h.box.below hB hbN
  have q0 := hb1.cell 0
  have q1 := hb1.cell 1
  have q2 := hb1.cell 2
  go_upto_region 5 with (go_at_call 153; refine (plane_place_no c r row col _ hn _).mono ?_; rintro e w2 ⟨rfl, hb2⟩)
  have hN0 := b0.lt
  have b2 := b0.below hb2 b0.lt
  go_wp2_with (first | refine wpList_buildTo rfl 57 _ rfl (some 25) rfl (ints .i16 (List.replicate 64 0)) (by kernel_rfl) ?_ | refine wpList_store_rowTo rfl 57 _ _ rfl rfl N (ints .i16 (List.replicate 64 0)) rfl rfl 57 _ b2 (by rw [ints_size]; kernel_rfl) rfl (ints_one _ _) ?_)
  refine bodyPost_ret (results_row_tmp rfl _ _ N 57 _ _ rfl (b2.row _) Try.underlying57 rfl (by rw [ints_size]; kernel_rfl)) rfl ?_
  exact ⟨rfl, Below.setRow (hB.trans (hb2.mono (Nat.le_of_lt hN0))) (Nat.le_refl _) _⟩
theorem sheet_at (lo b c r : Nat) (u : Value) (bs : List (List Int)) (row col : Nat) (hr : row < r) (hc : col < c) (hcr : c * r ≤ 16384) (w : World) (h : Pl.Sheet w lo b c r u bs) :
    Calls Try.prog 146 #[.pointer (some ⟨b, 0, none⟩), .int .i64 row, .int .i64 col] w fun e w' => e = .returned (.tuple #[.agg (ints .i16 (Pl.blk bs (row * c + col))), .bool true]) ∧ Below w.heap.size w w' := by
  have hkl : row * c + col < c * r := by
    have h1 : (row + 1) * c ≤ r * c := Nat.mul_le_mul_right _ hr
    rw [Nat.add_mul, Nat.one_mul] at h1
    rw [Nat.mul_comm c r]
    omega
  obtain ⟨g, cap, rfl, hlo, hgs, _⟩ := h.row.cells (by omega)
  obtain ⟨z, hz⟩ : ∃ z : Nat, row * c = z := ⟨_, rfl⟩
  have hzi : (row : Int) * (c : Int) = (z : Int) := by rw [← hz]; push_cast; rfl
  rw [hz] at hkl ⊢
  have hin : Pl.isIn c r row col := ⟨by omega, by omega, by omega, by omega⟩
  have hpl := fun W => plane_place_yes c r row col (.slice (some ⟨g, 0, none⟩) (c * r) cap) hin z hzi (IntWalk.wrap64_in _ (by clear hzi; omega)) (IntWalk.wrap64_in _ (by clear hzi; omega)) W
  obtain ⟨N, hN⟩ : ∃ N, N = w.heap.size := ⟨_, rfl⟩
  have HN := Lib.hid hN
  have hbN : b < N := by rw [hN]; exact h.box.lt
  rw [← hN]
  obtain ⟨n, hn⟩ : ∃ n, c * r = n := ⟨_, rfl⟩
  have hbox := h.box
  have hrow := h.row.ar
  have h64 := h.h64
  have hlen := h.len
  rw [hn] at hkl hpl hbox hrow hcr hlen
  have HNN := Lib.hid hn
  clear hN hz hn hzi h
  have hk1 : (z : Int) + (col : Int) < (n : Int) := by omega
  have hk0 : (0 : Int) ≤ (z : Int) + (col : Int) := by omega
  have hkn : ((z : Int) + (col : Int)).toNat = z + col := by omega
  have hkb : z + col < bs.length := by rw [hlen]; exact hkl
  have hbx := Pl.blk_get hkb
  have hb64 := Pl.blk_len h64 (z + col)
  have HLEN := Lib.hid hlen
  clear hlen
  go_enter Try.func146, Try.ntmps146
  go_upto_region 1 with (refine Great.wpList_runTo rfl _ rfl _ _ (run_alloc_blk _ rfl) ?_)
  refine wp_world (fun W => Blk W N (ints .i16 (List.replicate 64 0)) 57 ∧ Below N w W) ⟨Blk.new' _ _ _ HN.out, (Below.refl _ _).alloc (by rw [HN.out]; exact Nat.le_refl _) _⟩ ?_
  rintro W0 ⟨b0, hB⟩
  rw [← HN.out]
  have hN0 : N < W0.heap.size := b0.lt
  have hb1 := hbox.below hB hbN
  have q0 := hb1.cell 0
  have q1 := hb1.cell 1
  have q2 := hb1.cell 2
  go_upto_region 6 with (go_at_call 153; refine (hpl _).mono ?_; rintro e w2 ⟨rfl, hb2⟩)
  have b02 := b0.below hb2 b0.lt
  have hB2 := hB.trans (hb2.mono (by omega))
  have hA2 := hrow.below (w' := w2) (by rw [← HN.out]; exact hB2)
  have hb3 := hbox.below hB2 hbN
  have q3 := hb3.cell 2
  clear q0 q1 q2 hb1
  go_wp2_with (first | refine Great.wpList_runTo rfl _ rfl _ _ (ar_loadx hA2 h64 (z + col) hkb _ hbx _ rfl (by show _ = Value.pointer (some (Addr.add ⟨g, 0, none⟩ ((z + col) * 64))); rw [Addr.add_mid, Nat.zero_add]; rfl)) ?_ | refine wpList_store_rowTo rfl 57 _ _ rfl rfl N (ints .i16 (Pl.blk bs (z + col))) rfl rfl 57 _ b02 (by rw [ints_size, hb64]; kernel_rfl) (by rw [ints_size, ints_size, hb64]; rfl) (ints_one _ _) ?_)
  refine bodyPost_ret (results_row_tmp rfl _ _ N 57 _ _ rfl (b02.row (ints .i16 (Pl.blk bs (z + col)))) Try.underlying57 rfl (by rw [ints_size, hb64]; kernel_rfl)) rfl ?_
  exact ⟨rfl, Below.setRow hB2 (Nat.le_refl _) _⟩
theorem plane_of_no (c r : Int) (bu : Option Addr) (n cap : Nat) (hr : Pl.right c r n = false) (w : World) :
    Calls Try.prog 145 #[.agg #[.int .i64 c, .int .i64 r, .slice bu n cap]] w fun e w' => e = .returned (.tuple #[.pointer none, .int .i64 1]) ∧ Below w.heap.size w w' := by
  obtain ⟨N, hN⟩ : ∃ N, N = w.heap.size := ⟨_, rfl⟩
  have HN := Lib.hid hN
  rw [← hN]
  clear hN
  go_enter Try.func145, Try.ntmps145
  go_upto_region 1 with fail
  refine wp_world (fun W => Blk W N #[.int .i64 c, .int .i64 r, .slice bu n cap] 61 ∧ Below N w W) ⟨Blk.new' _ _ _ HN.out, (Below.refl _ _).alloc (by rw [HN.out]; exact Nat.le_refl _) _⟩ ?_
  rintro W0 ⟨b0, hB⟩
  rw [← HN.out]
  have q0 := b0.cell 0
  have q1 := b0.cell 1
  have q2 := b0.cell 2
  have hri := plane_right c r n bu cap W0
  rw [hr] at hri
  go_wp2_with (go_at_call 118; refine hri.mono ?_; rintro e w1 ⟨rfl, hb1⟩)
  go_ret2
  exact ⟨rfl, hB.trans (hb1.mono (Nat.le_of_lt b0.lt))⟩
theorem plane_of (c r : Nat) (u : Value) (bs : List (List Int)) (h64 : Right64 bs) (hr : Pl.right c r bs.length = true) (hn : bs.length = c * r) (w : World) (hA : Ar w 64 u bs.length (bcells bs)) :
    Calls Try.prog 145 #[.agg #[.int .i64 c, .int .i64 r, u]] w fun e w' => ∃ b v, e = .returned (.tuple #[.pointer (some ⟨b, 0, none⟩), .int .i64 0]) ∧ Pl.Sheet w' w.heap.size b c r v bs ∧ w.heap.size ≤ b ∧ Below w.heap.size w w' := by
  have hb6 : bs.length ≤ 1000000 := by
    unfold Pl.right at hr
    simp only [Bool.and_eq_true, beq_iff_eq] at hr
    have := Pl.sized_ok hr.1
    omega
  obtain ⟨bu, cap, rfl, _, _⟩ := hA.len
  obtain ⟨N, hN⟩ : ∃ N, N = w.heap.size := ⟨_, rfl⟩
  have HN := Lib.hid hN
  have HLEN := Lib.hid hn
  rw [← hN]
  clear hN hn
  go_enter Try.func145, Try.ntmps145
  go_upto_region 1 with fail
  refine wp_world (fun W => Blk W N #[.int .i64 c, .int .i64 r, .slice bu bs.length cap] 61 ∧ Below N w W) ⟨Blk.new' _ _ _ HN.out, (Below.refl _ _).alloc (by rw [HN.out]; exact Nat.le_refl _) _⟩ ?_
  rintro W0 ⟨b0, hB⟩
  rw [← HN.out]
  have q0 := b0.cell 0
  have q1 := b0.cell 1
  have q2 := b0.cell 2
  have hri := plane_right c r bs.length bu cap W0
  rw [hr] at hri
  have hN0 := Nat.le_of_lt b0.lt
  go_upto_region 3 with (go_at_call 118; refine hri.mono ?_; rintro e w1 ⟨rfl, hb1⟩)
  have b1 := b0.below hb1 b0.lt
  have hB1 := hB.trans (hb1.mono hN0)
  have hcl := blocks_clone _ _ _ hb6 w1 (hA.below (by rw [← HN.out]; exact hB1)) (bcells_one _)
  clear q0 q1 q2 b0 hB hb1 hri
  have q2 := b1.cell 2
  go_upto_region 4 with (go_at_call 83; refine hcl.mono ?_; rintro e w2 ⟨v, rfl, hR, hb2⟩; obtain ⟨bv, cv, rfl⟩ := hR.len; have b2 := b1.below hb2 b1.lt; have q3 := b2.cell 2; have f3 := b2.free 2)
  have hN1 : N < w1.heap.size := b1.lt
  refine wp_world (fun W => Blk W N #[.int .i64 c, .int .i64 r, .slice bv bs.length cv] 61 ∧ Row W N 57 64 (.slice bv bs.length cv) bs.length (bcells bs) ∧ Below N w W) ⟨b2.set 2 _, (hR.other ⟨N, 2, none⟩ _ (hR.typed b2 (by decide))).down (by omega), (hB1.trans (hb2.mono (by omega))).setCell (p := ⟨N, 2, none⟩) (Nat.le_refl _) _⟩ ?_
  clear b1 b2 q2 q3 f3 hcl hR hb2 hB1 hN1 hN0
  rintro W3 ⟨b3, hR, hB3⟩
  have q0 := b3.cell 0
  have q1 := b3.cell 1
  have q2 := b3.cell 2
  go_wp2_with fail
  go_ret2
  have hn3 : N < W3.heap.size := b3.lt
  refine ⟨_, _, rfl, ⟨Blk.new _ _ _, ?_, h64, HLEN.out⟩, by omega, hB3.alloc (by omega) _⟩
  have := hR.grow ((Below.refl _ _).alloc (Nat.le_refl W3.heap.size) (.cells #[.int .i64 c, .int .i64 r, .slice bv bs.length cv] 180))
  rw [HLEN.out] at this ⊢
  exact this
end Go.Proofs.Ytgmhhocpdfdplaa
/- Windows of windows; Window's contract at any rectangle. -/
namespace Go.Proofs.Ytgmhhocpdfdplaa
open Go.RowKit
set_option maxRecDepth 100000
namespace Pl
theorem win_cons (bs : List (List Int)) (c a b d k : Nat) : win bs c a b d (k + 1) = (bs.drop (a * c + b)).take d ++ win bs c (a + 1) b d k := by
  unfold win
  rw [List.range_succ_eq_map, List.flatMap_cons, List.flatMap_map]
  congr 1
  congr 1
  funext i
  rw [show a + (i + 1) = a + 1 + i by omega]
theorem win_drop (bs : List (List Int)) (c b d : Nat) : ∀ (i a h : Nat), i ≤ h → (∀ j, j < i → (a + j) * c + b + d ≤ bs.length) → (win bs c a b d h).drop (i * d) = win bs c (a + i) b d (h - i)
  | 0, a, h, _, _ => by simp
  | i + 1, a, h, hi, hf => by
    obtain ⟨h, rfl⟩ : ∃ k, h = k + 1 := ⟨h - 1, by omega⟩
    have h0 := hf 0 (by omega)
    have hl : ((bs.drop (a * c + b)).take d).length = d := by rw [Nat.add_zero] at h0; simp; omega
    rw [win_cons, show (i + 1) * d = d + i * d by rw [Nat.add_mul, Nat.one_mul, Nat.add_comm], List.drop_append, hl]
    rw [List.drop_eq_nil_of_le (by omega), List.nil_append, Nat.add_sub_cancel_left]
    rw [win_drop bs c b d i (a + 1) h (by omega) (fun j hj => by have := hf (j + 1) (by omega); rwa [show a + (j + 1) = a + 1 + j by omega] at this)]
    rw [show a + 1 + i = a + (i + 1) by omega, show h + 1 - (i + 1) = h - i by omega]
theorem win_row (bs : List (List Int)) (c a b d h i b2 d2 : Nat) (hi : i < h) (hf : ∀ j, j < h → (a + j) * c + b + d ≤ bs.length) (hb : b2 + d2 ≤ d) :
    ((win bs c a b d h).drop (i * d + b2)).take d2 = (bs.drop ((a + i) * c + (b + b2))).take d2 := by
  rw [← List.drop_drop, win_drop bs c b d i a h (by omega) (fun j hj => hf j (by omega))]
  obtain ⟨k, hk⟩ : ∃ k, h - i = k + 1 := ⟨h - i - 1, by omega⟩
  rw [hk, win_cons]
  have h0 := hf i hi
  have hl : ((bs.drop ((a + i) * c + b)).take d).length = d := by simp; omega
  rw [List.drop_append, List.take_append, List.length_drop, hl, show d2 - (d - b2) = 0 by omega, List.take_zero, List.append_nil, List.drop_take, List.take_take, List.drop_drop, Nat.min_eq_left (by omega), Nat.add_assoc]
theorem win_win (bs : List (List Int)) (c a b d h a2 b2 d2 h2 : Nat) (hf : ∀ j, j < h → (a + j) * c + b + d ≤ bs.length) (ha : a2 + h2 ≤ h) (hb : b2 + d2 ≤ d) :
    win (win bs c a b d h) d a2 b2 d2 h2 = win bs c (a + a2) (b + b2) d2 h2 := by
  unfold win
  rw [List.flatMap_def, List.flatMap_def]
  congr 1
  apply List.map_congr_left
  intro i hi
  have hi := List.mem_range.1 hi
  have := win_row bs c a b d h (a2 + i) b2 d2 (by omega) hf hb
  rw [Nat.add_assoc]
  exact this
/-- What Window answers of a rectangle in a plane of n blocks. -/
instance (c r a b h d : Int) : Decidable (out c r a b h d) := by unfold out; infer_instance
def werr (c r : Int) (n : Nat) (a b h d : Int) : Int := if right c r n = true then (if out c r a b h d then 14 else 0) else 1
theorem right_nat {c r : Int} {n : Nat} (h : right c r n = true) : 1 ≤ c ∧ 1 ≤ r ∧ c ≤ 16384 ∧ r ≤ 16384 ∧ (n : Int) = c * r ∧ n ≤ 16384 := by
  unfold right at h
  simp only [Bool.and_eq_true, beq_iff_eq] at h
  have := sized_ok h.1
  omega
theorem sized_of {c r : Nat} (h1 : 1 ≤ c) (h2 : 1 ≤ r) (h3 : c * r ≤ 16384) : sized c r = 0 := by
  unfold sized
  have h4 : c ≤ c * r := Nat.le_mul_of_pos_right _ h2
  have hq : (16384 : Int) / (c : Int) < (r : Int) ↔ 16384 < (r : Int) * (c : Int) := Int.ediv_lt_iff_lt_mul (by omega)
  have h5 : (r : Int) * (c : Int) ≤ 16384 := by rw [Int.mul_comm]; exact_mod_cast h3
  rw [if_neg (by omega), if_neg]
  rintro (h | h)
  · omega
  · have := hq.1 h
    omega
theorem right_of {c r : Nat} (h1 : 1 ≤ c) (h2 : 1 ≤ r) (h3 : c * r ≤ 16384) : right c r (c * r) = true := by
  unfold right
  rw [sized_of h1 h2 h3]
  simp
theorem not_out {c r a b h d : Int} (hn : ¬ out c r a b h d) : 0 ≤ a ∧ 0 ≤ b ∧ 1 ≤ h ∧ 1 ≤ d ∧ a + h ≤ r ∧ b + d ≤ c := by
  unfold out at hn
  omega
end Pl
/-- What Window yields. -/
structure WinOk (W W' : World) (c r : Int) (bs : List (List Int)) (a b h d : Int) (v : Value) : Prop where
  right : Pl.right c r bs.length = true
  a0 : 0 ≤ a
  b0 : 0 ≤ b
  h1 : 1 ≤ h
  d1 : 1 ≤ d
  ar : a + h ≤ r
  bc : b + d ≤ c
  row : Row W' W.heap.size 57 64 v (h.toNat * d.toNat) (bcells (Pl.win bs c.toNat a.toNat b.toNat d.toNat h.toNat))
theorem plane_window_any (c r : Int) (u : Value) (bs : List (List Int)) (h64 : Right64 bs) (a b h d : Int) (w : World) (hA : Ar w 64 u bs.length (bcells bs)) :
    Calls Try.prog 88 #[.agg #[.int .i64 c, .int .i64 r, u], .agg #[.int .i64 a, .int .i64 b, .int .i64 h, .int .i64 d]] w fun e w' => Below w.heap.size w w' ∧
      (Pl.werr c r bs.length a b h d ≠ 0 → e = .returned (.tuple #[.agg #[.int .i64 0, .int .i64 0, .slice none 0 0], .int .i64 (Pl.werr c r bs.length a b h d)])) ∧
      (Pl.werr c r bs.length a b h d = 0 → ∃ v, e = .returned (.tuple #[.agg #[.int .i64 d, .int .i64 h, v], .int .i64 0]) ∧ WinOk w w' c r bs a b h d v) := by
  obtain ⟨bu, cap, rfl, _, _⟩ := hA.len
  by_cases hr : Pl.right c r bs.length = true
  · by_cases ho : Pl.out c r a b h d
    · have e : Pl.werr c r bs.length a b h d = 14 := by unfold Pl.werr; rw [if_pos hr, if_pos ho]
      rw [e]
      refine (plane_window_no c r bs.length bu cap a b h d 14 (by decide) w (fun W => (plane_within c r bs.length bu cap a b h d hr W).mono fun e w' hh => ⟨hh.1 ho, hh.2.2⟩)).mono ?_
      rintro e w' ⟨rfl, hb⟩
      exact ⟨hb, fun _ => rfl, fun h => by cases h⟩
    · have e : Pl.werr c r bs.length a b h d = 0 := by unfold Pl.werr; rw [if_pos hr, if_neg ho]
      rw [e]
      obtain ⟨k1, k2, k3, k4, k5, k6⟩ := Pl.right_nat hr
      obtain ⟨o1, o2, o3, o4, o5, o6⟩ := Pl.not_out ho
      obtain ⟨c, rfl⟩ : ∃ k : Nat, c = k := ⟨c.toNat, by omega⟩
      obtain ⟨r, rfl⟩ : ∃ k : Nat, r = k := ⟨r.toNat, by omega⟩
      obtain ⟨a, rfl⟩ : ∃ k : Nat, a = k := ⟨a.toNat, by omega⟩
      obtain ⟨b, rfl⟩ : ∃ k : Nat, b = k := ⟨b.toNat, by omega⟩
      obtain ⟨h, rfl⟩ : ∃ k : Nat, h = k := ⟨h.toNat, by omega⟩
      obtain ⟨d, rfl⟩ : ∃ k : Nat, d = k := ⟨d.toNat, by omega⟩
      refine (plane_window c r a b h d _ bs h64 (by exact_mod_cast k5) hr (by omega) (by omega) (by omega) (by omega) w hA).mono ?_
      rintro e w' ⟨v, rfl, hR, hb⟩
      exact ⟨hb, fun h => absurd rfl h, fun _ => ⟨v, rfl, hr, o1, o2, o3, o4, o5, o6, by simpa using hR⟩⟩
  · have e : Pl.werr c r bs.length a b h d = 1 := by unfold Pl.werr; rw [if_neg hr]
    rw [e]
    refine (plane_window_no c r bs.length bu cap a b h d 1 (by decide) w (fun W => plane_within_bad c r bs.length bu cap a b h d (by simpa using hr) W)).mono ?_
    rintro e w' ⟨rfl, hb⟩
    exact ⟨hb, fun _ => rfl, fun h => by cases h⟩
end Go.Proofs.Ytgmhhocpdfdplaa
/- Package plane's Paint, walked; the reference's Inside. -/
namespace Go.Proofs.Ytgmhhocpdfdplaa
open Go.RowKit
set_option maxRecDepth 100000
set_option maxHeartbeats 8000000
namespace Pl
theorem blk_set_self {bs : List (List Int)} {k : Nat} (h : k < bs.length) (b : List Int) : blk (bs.set k b) k = b := by
  unfold blk
  rw [List.getD_eq_getElem?_getD, List.getElem?_set_self h]
  rfl
theorem blk_set_ne {bs : List (List Int)} {k i : Nat} (h : i ≠ k) (b : List Int) : blk (bs.set k b) i = blk bs i := by
  unfold blk
  rw [List.getD_eq_getElem?_getD, List.getElem?_set_ne (Ne.symm h), ← List.getD_eq_getElem?_getD]
/-- L is bs, with x wherever S. -/
structure Painted (bs L : List (List Int)) (S : Nat → Prop) (x : List Int) : Prop where
  len : L.length = bs.length
  h64 : Right64 L
  yes : ∀ i, i < bs.length → S i → blk L i = x
  no : ∀ i, i < bs.length → ¬ S i → blk L i = blk bs i
theorem Painted.start {bs : List (List Int)} (h : Right64 bs) {S : Nat → Prop} (hS : ∀ i, ¬ S i) (x : List Int) : Painted bs bs S x := ⟨rfl, h, fun i _ hi => absurd hi (hS i), fun _ _ _ => rfl⟩
theorem Painted.step {bs L : List (List Int)} {S S' : Nat → Prop} {x : List Int} (h : Painted bs L S x) (hx : x.length = 64) (k : Nat) (hk : k < bs.length) (hS : ∀ i, S' i ↔ S i ∨ i = k) : Painted bs (L.set k x) S' x := by
  refine ⟨by rw [List.length_set]; exact h.len, fun v hv => by rcases List.mem_or_eq_of_mem_set hv with hv | rfl; exact h.h64 v hv; exact hx, fun i hi hSi => ?_, fun i hi hSi => ?_⟩
  · by_cases e : i = k
    · rw [e]; exact blk_set_self (by rw [h.len]; exact hk) x
    · rw [blk_set_ne e]; exact h.yes i hi (((hS i).1 hSi).resolve_right e)
  · have h1 : ¬ S i ∧ i ≠ k := ⟨fun hs => hSi ((hS i).2 (.inl hs)), fun hs => hSi ((hS i).2 (.inr hs))⟩
    rw [blk_set_ne h1.2]; exact h.no i hi h1.1
theorem Painted.iff {bs L : List (List Int)} {S S' : Nat → Prop} {x : List Int} (h : Painted bs L S x) (hS : ∀ i, S' i ↔ S i) : Painted bs L S' x :=
  ⟨h.len, h.h64, fun i hi hs => h.yes i hi ((hS i).1 hs), fun i hi hs => h.no i hi (fun h => hs ((hS i).2 h))⟩
/-- Is a place in a rectangle? -/
def inR (a b h d row col : Nat) : Prop := a ≤ row ∧ row < a + h ∧ b ≤ col ∧ col < b + d
instance (a b h d row col : Nat) : Decidable (inR a b h d row col) := by unfold inR; infer_instance
/-- What is painted after k rows, and t blocks of the next one. -/
def did (c a b d k t : Nat) (i : Nat) : Prop := (a ≤ i / c ∧ i / c < a + k ∧ b ≤ i % c ∧ i % c < b + d) ∨ (i / c = a + k ∧ b ≤ i % c ∧ i % c < b + t)
theorem did_zero (c a b d i : Nat) : ¬ did c a b d 0 0 i := by unfold did; omega
theorem did_row (c a b d k i : Nat) : did c a b d (k + 1) 0 i ↔ did c a b d k d i := by unfold did; omega
theorem did_end (c a b h d i : Nat) : inR a b h d (i / c) (i % c) ↔ did c a b d h 0 i := by unfold did inR; omega
theorem did_step (c a b d k t i z : Nat) (hz : (a + k) * c = z) (ht : t < d) (hb : b + d ≤ c) : did c a b d k (t + 1) i ↔ did c a b d k t i ∨ i = z + b + t := by
  have hc : 0 < c := by omega
  have e : i = z + b + t ↔ i / c = a + k ∧ i % c = b + t := by
    constructor
    · rintro rfl
      rw [← hz, Nat.add_assoc, Nat.add_comm, Nat.add_mul_div_right _ _ hc, Nat.add_mul_mod_self_right, Nat.div_eq_of_lt (by omega), Nat.mod_eq_of_lt (by omega)]
      omega
    · rintro ⟨h1, h2⟩
      have h3 := Nat.div_add_mod i c
      rw [h1, h2, Nat.mul_comm, hz] at h3
      omega
  rw [e]
  unfold did
  omega
end Pl
theorem plane_paint_no (c r : Int) (n : Nat) (bu : Option Addr) (cap : Nat) (a b h d : Int) (x : List Int) (e0 : Int) (he : e0 ≠ 0) (w : World)
    (hw : ∀ W, Calls Try.prog 131 #[.agg #[.int .i64 c, .int .i64 r, .slice bu n cap], .agg #[.int .i64 a, .int .i64 b, .int .i64 h, .int .i64 d]] W fun e w' => e = .returned (.int .i64 e0) ∧ Below W.heap.size W w') :
    Calls Try.prog 91 #[.agg #[.int .i64 c, .int .i64 r, .slice bu n cap], .agg #[.int .i64 a, .int .i64 b, .int .i64 h, .int .i64 d], .agg (ints .i16 x)] w fun e w' => e = .returned (.tuple #[.agg #[.int .i64 0, .int .i64 0, .slice none 0 0], .int .i64 e0]) ∧ Below w.heap.size w w' := by
  obtain ⟨N, hN⟩ : ∃ N, N = w.heap.size := ⟨_, rfl⟩
  have HN := Lib.hid hN
  rw [← hN]
  clear hN
  go_enter Try.func91, Try.ntmps91
  go_upto_region 1 with fail
  refine wp_world (fun W => Blk W N #[.int .i64 c, .int .i64 r, .slice bu n cap] 61 ∧ Blk W (N + 1) #[.int .i64 a, .int .i64 b, .int .i64 h, .int .i64 d] 70 ∧ Blk W (N + 3) #[.int .i64 0, .int .i64 0, .slice none 0 0] 61 ∧ Below N w W)
    ⟨(((Blk.new' _ _ _ HN.out).alloc _).alloc _).alloc _, ((Blk.new' _ _ _ (by simp [HN.out])).alloc _).alloc _, Blk.new' _ _ _ (by simp [HN.out]), ((((Below.refl _ _).alloc (by rw [HN.out]; exact Nat.le_refl _) _).alloc (by rw [HN.out]; simp) _).alloc (by rw [HN.out]; simp; omega) _).alloc (by rw [HN.out]; simp; omega) _⟩ ?_
  rintro W0 ⟨b0, b1, b2, hB⟩
  rw [← HN.out]
  have hw0 := hw W0
  have te : (e0 == 0) = false := by simpa using he
  have te2 : decide (e0 = 0) = false := by simpa using he
  have hN0 := b0.lt
  go_wp2_with (first
    | (refine wpList_load_row rfl 61 _ rfl N rfl 61 _ _ _ b0 Try.underlying61 rfl (by kernel_rfl) ?_)
    | (refine wpList_load_row rfl 70 _ rfl (N + 1) rfl 70 _ _ _ b1 Try.underlying70 rfl (by kernel_rfl) ?_)
    | (go_at_call 131; refine hw0.mono ?_; rintro e w1 ⟨rfl, hb⟩; have b21 := b2.below hb b2.lt; have hB1 := hB.trans (hb.mono (by omega)))
    | (refine wpList_store_row rfl 61 _ _ rfl (N+3) _ rfl rfl 61 _ b21 (by kernel_rfl) rfl (by simp [Value.oneCell']) ?_))
  refine bodyPost_ret (results_row_tmp rfl _ _ (N + 3) 61 _ _ rfl (b21.row _) Try.underlying61 rfl (by kernel_rfl)) rfl ?_
  exact ⟨rfl, Below.setRow hB1 (by omega) _⟩
namespace Pl
/-- What Paint's rounds keep. -/
structure PB (N : Nat) (c r n a b h d : Nat) (x : List Int) (g cv : Nat) (w : World) (L : List (List Int)) (W : World) : Prop where
  bP : Blk W N #[.int .i64 c, .int .i64 r, .slice (some ⟨g, 0, none⟩) n cv] 61
  bR : Blk W (N + 1) #[.int .i64 a, .int .i64 b, .int .i64 h, .int .i64 d] 70
  bX : Blk W (N + 2) (ints .i16 x) 57
  bO : Blk W (N + 3) #[.int .i64 0, .int .i64 0, .slice none 0 0] 61
  row : Row W (N + 4) 57 64 (.slice (some ⟨g, 0, none⟩) n cv) n (bcells L)
  hB : Below N w W
theorem PB.lt {N : Nat} {c r n a b h d : Nat} {x : List Int} {g cv : Nat} {w : World} {L : List (List Int)} {W : World} (q : PB N c r n a b h d x g cv w L W) : N + 4 ≤ g ∧ g < W.heap.size := q.row.lt g rfl
theorem PB.put {N : Nat} {c r n a b h d : Nat} {x : List Int} {g cv : Nat} {w : World} {L : List (List Int)} {W : World} (q : PB N c r n a b h d x g cv w L W) (h64 : Right64 L) (hn : L.length = n) (hx : x.length = 64) (k : Nat) (hk : k < n) : PB N c r n a b h d x g cv w (L.set k x) (W.setCells g (k * 64) (x.map (Value.int .i16))) := by
  obtain ⟨g1, g2, g3, g4⟩ := setCells_chg g (x.map (Value.int .i16)) (k * 64) W
  have hg := q.lt
  exact ⟨(g4 N (by omega)).trans q.bP, (g4 _ (by omega)).trans q.bR, (g4 _ (by omega)).trans q.bX, (g4 _ (by omega)).trans q.bO, q.row.put h64 hn k hk x hx, q.hB.trans ⟨g1, g2, g3, by rw [setCells_size]; exact Nat.le_refl _, fun j hj => g4 j (by omega)⟩⟩
end Pl
theorem Row.there {w : World} {lo : Nat} {e : TypeId} {n g cap : Nat} {xs : List Value} (h : Row w lo e 64 (.slice (some ⟨g, 0, none⟩) n cap) n xs) (k : Nat) (hk : k < n) (m : Nat) (hm : m = 64) : World.there w g (k * 64) m := by
  rcases h.2 with ⟨h0, _⟩ | ⟨g', cap', cur, h0, h2, h3, h4, h5, h6, h7⟩
  · cases h0
  · cases h0
    intro j hj
    rw [hm] at hj
    have hlt : k * 64 + j < cur.size := by
      have h1 : k * 64 + 64 ≤ n * 64 := by omega
      have h2 : n * 64 ≤ cap * 64 := Nat.mul_le_mul_right _ h4
      omega
    exact ⟨by rw [h3.cell, Array.getElem?_eq_getElem hlt]; rfl, h3.free _⟩
theorem plane_paint (c r a b h d : Nat) (u : Value) (bs : List (List Int)) (x : List Int) (h64 : Right64 bs) (hx : x.length = 64) (hn : bs.length = c * r) (hr : Pl.right c r bs.length = true) (h1 : a + h ≤ r) (h2 : b + d ≤ c) (hd : 1 ≤ d) (hh : 1 ≤ h) (w : World) (hA : Ar w 64 u bs.length (bcells bs)) :
    Calls Try.prog 91 #[.agg #[.int .i64 c, .int .i64 r, u], .agg #[.int .i64 a, .int .i64 b, .int .i64 h, .int .i64 d], .agg (ints .i16 x)] w fun e w' =>
      ∃ v L, e = .returned (.tuple #[.agg #[.int .i64 c, .int .i64 r, v], .int .i64 0]) ∧ Pl.Painted bs L (fun i => Pl.inR a b h d (i / c) (i % c)) x ∧ Row w' w.heap.size 57 64 v bs.length (bcells L) ∧ Below w.heap.size w w' := by
  obtain ⟨bu, cap, rfl, -, -⟩ := hA.len
  have hsz : 1 ≤ c ∧ 1 ≤ r ∧ c ≤ 16384 ∧ r ≤ 16384 ∧ c * r ≤ 16384 := by
    unfold Pl.right at hr
    simp only [Bool.and_eq_true, beq_iff_eq] at hr
    obtain ⟨h1, h2, h3, h4, _, h6⟩ := Pl.sized_ok hr.1
    exact ⟨by omega, by omega, by omega, by omega, by exact_mod_cast h6⟩
  have hno : ¬ Pl.out c r a b h d := by unfold Pl.out; omega
  have hbl : bs.length ≤ 16384 := by rw [hn]; exact hsz.2.2.2.2
  have hfit : ∀ i, i < h → (a + i) * c + b + d ≤ bs.length := fun i hi => Pl.row_fits hn h1 h2 hi
  have hpos : 0 < bs.length := by have := hfit 0 (by omega); omega
  clear hn
  obtain ⟨N, hN⟩ : ∃ N, N = w.heap.size := ⟨_, rfl⟩
  have HN := Lib.hid hN
  rw [← hN]
  clear hN
  go_enter Try.func91, Try.ntmps91
  go_upto_region 1 with fail
  refine wp_world (fun W => Blk W N #[.int .i64 c, .int .i64 r, .slice bu bs.length cap] 61 ∧ Blk W (N + 1) #[.int .i64 a, .int .i64 b, .int .i64 h, .int .i64 d] 70 ∧ Blk W (N + 2) (ints .i16 x) 57 ∧ Blk W (N + 3) #[.int .i64 0, .int .i64 0, .slice none 0 0] 61 ∧ Below N w W)
    ⟨(((Blk.new' _ _ _ HN.out).alloc _).alloc _).alloc _, ((Blk.new' _ _ _ (by simp [HN.out])).alloc _).alloc _, (Blk.new' _ _ _ (by simp [HN.out])).alloc _, Blk.new' _ _ _ (by simp [HN.out]), ((((Below.refl _ _).alloc (by rw [HN.out]; exact Nat.le_refl _) _).alloc (by rw [HN.out]; simp) _).alloc (by rw [HN.out]; simp; omega) _).alloc (by rw [HN.out]; simp; omega) _⟩ ?_
  rintro W0 ⟨b0, b1, b2, b3, hB⟩
  rw [← HN.out]
  have hw0 := plane_within c r bs.length bu cap a b h d hr W0
  have hN0 := b0.lt
  go_upto_region 4 with (first
    | (refine wpList_load_row rfl 61 _ rfl N rfl 61 _ _ _ b0 Try.underlying61 rfl (by kernel_rfl) ?_)
    | (refine wpList_load_row rfl 70 _ rfl (N + 1) rfl 70 _ _ _ b1 Try.underlying70 rfl (by kernel_rfl) ?_)
    | (go_at_call 131; refine hw0.mono ?_; rintro e w1 ⟨_, he, hb⟩; obtain rfl := he hno; have b01 := b0.below hb b0.lt; have b11 := b1.below hb b1.lt; have b21 := b2.below hb b2.lt; have b31 := b3.below hb b3.lt; have hB1 := hB.trans (hb.mono (by omega))))
  have hcl := blocks_clone _ _ _ (by omega) w1 (hA.below (by rw [← HN.out]; exact hB1)) (bcells_one _)
  have q2 := b01.cell 2
  have hN1 := b31.lt
  go_upto_region 5 with (go_at_call 83; refine hcl.mono ?_; rintro e w2 ⟨v, rfl, hR, hb2⟩; obtain ⟨g, cv, rfl, -, -, -⟩ := hR.cells hpos; have b02 := b01.below hb2 b01.lt; have q3 := b02.cell 2; have f3 := b02.free 2)
  refine wp_world (fun W => Pl.PB N c r bs.length a b h d x g cv w bs W) ?_ ?_
  · have hg := (hR.lt g rfl).1
    exact ⟨b02.set 2 _, (b11.below hb2 b11.lt).other _ _ (by show N + 1 ≠ N; omega), (b21.below hb2 b21.lt).other _ _ (by show N + 2 ≠ N; omega), (b31.below hb2 b31.lt).other _ _ (by show N + 3 ≠ N; omega), (hR.down (by omega)).other _ _ (fun k hk => by cases hk; show g ≠ N; omega), (hB1.trans (hb2.mono (by omega))).setCell (p := ⟨N, 2, none⟩) (Nat.le_refl _) _⟩
  clear b0 b1 b2 b3 hB hb b01 b11 b21 b31 hB1 hw0 hN0 hcl q2 q3 f3 hR hb2 b02 hN1
  rintro W1 hP
  have hp0 : Pl.Painted bs bs (Pl.did c a b d 0 0) x := Pl.Painted.start h64 (Pl.did_zero c a b d) x
  have q2 := hP.bR.cell 2
  go_wp2_with fail
  go_loopw [24] (fun i wr => ∃ (k : Nat) (L : List (List Int)), k ≤ h ∧ i = .int .i64 k ∧ Pl.Painted bs L (Pl.did c a b d k 0) x ∧ Pl.PB N c r bs.length a b h d x g cv w L wr) (fun i _ => h - (intOf i).toNat)
  case atStart => exact ⟨0, bs, Nat.zero_le _, rfl, hp0, hP⟩
  case round =>
    clear hP q2 hp0
    obtain ⟨k, L, hk, rfl, hp, hP⟩ := hrel
    by_cases hlt : k < h
    · have tk : decide (k < h) = true := by simpa using hlt
      have hf := hfit k hlt
      obtain ⟨z, hz⟩ : ∃ z : Nat, (a + k) * c = z := ⟨_, rfl⟩
      rw [hz] at hf
      have hst := fun t i => Pl.did_step c a b d k t i z hz
      have hrw := fun i => Pl.did_row c a b d k i
      have q3 := hP.bR.cell 3
      have hzi : ((a : Int) + (k : Int)) * (c : Int) = (z : Int) := by rw [← hz]; push_cast; rfl
      clear hz
      have hz0 : -9223372036854775808 ≤ (z : Int) ∧ (z : Int) ≤ 9223372036854775807 := by clear hzi; omega
      have hzw : Value.int .i64 (wrap64 (((a : Int) + (k : Int)) * (c : Int))) = .int .i64 (z : Int) := by rw [hzi, IntWalk.wrap64_in _ hz0]
      clear hzi hz0
      go_upto_region 9 with fail
      go_loopw [29] (fun i wr => ∃ (t : Nat) (L : List (List Int)), t ≤ d ∧ i = .int .i64 t ∧ Pl.Painted bs L (Pl.did c a b d k t) x ∧ Pl.PB N c r bs.length a b h d x g cv w L wr) (fun i _ => d - (intOf i).toNat)
      case atStart => exact ⟨0, L, Nat.zero_le _, rfl, hp, hP⟩
      case round =>
        clear hP hp q3
        obtain ⟨t, L, ht, rfl, hp, hP⟩ := hrel
        by_cases htl : t < d
        · have tt : decide (t < d) = true := by simpa using htl
          have x0 := hP.bP.cell 0
          have x2 := hP.bP.cell 2
          have y0 := hP.bR.cell 0
          have y1 := hP.bR.cell 1
          have u0 : (0 : Int) ≤ (z : Int) + (b : Int) + (t : Int) := by clear hzw; omega
          have u1 : (z : Int) + (b : Int) + (t : Int) < (bs.length : Int) := by clear hzw; omega
          have u2 : ((z : Int) + (b : Int) + (t : Int)).toNat = z + b + t := by clear hzw; omega
          have hth := hP.row.there (z + b + t) (by clear hzw; omega) (ints .i16 x).size (by rw [ints_size, hx])
          go_upto_region 12 with (first
            | (refine wpList_load_row rfl 57 _ rfl (N + 2) rfl 57 _ _ _ hP.bX Try.underlying57 rfl (by rw [ints_size, hx]; kernel_rfl) ?_)
            | (refine wpList_store_mid rfl 57 _ _ rfl g ((z + b + t) * 64) (ints .i16 x) rfl rfl hth (by rw [ints_size, hx]; kernel_rfl) (ints_one _ _) ?_))
          have hPn := hP.put hp.h64 hp.len hx (z + b + t) (by clear hzw; omega)
          have hvs : (ints .i16 x).toList = x.map (Value.int .i16) := by simp [ints]
          rw [hvs]
          go_wp2_with fail
          exact ⟨⟨t + 1, L.set (z + b + t) x, by omega, by go_num, hp.step hx _ (by clear hzw; omega) (fun i => hst t i htl h2), hPn⟩, by simp [intOf]; omega⟩
        · have tt : decide (t < d) = false := by simpa using htl
          obtain rfl : t = d := by omega
          go_wp2_with fail
          exact ⟨⟨k + 1, L, by omega, by go_num, hp.iff hrw, hP⟩, by simp [intOf]; omega⟩
    · have tk : decide (k < h) = false := by simpa using hlt
      obtain rfl : k = h := by omega
      go_wp2_with (first
        | (refine wpList_load_row rfl 61 _ rfl N rfl 61 _ _ _ hP.bP Try.underlying61 rfl (by kernel_rfl) ?_)
        | (refine wpList_store_row rfl 61 _ _ rfl (N+3) _ rfl rfl 61 _ hP.bO (by kernel_rfl) rfl (by simp [Value.oneCell']) ?_))
      refine bodyPost_ret (results_row_tmp rfl _ _ (N + 3) 61 _ _ rfl (hP.bO.row _) Try.underlying61 rfl (by kernel_rfl)) rfl ?_
      exact ⟨_, L, rfl, hp.iff (Pl.did_end c a b k d), Row.down (Row.same (w := wr) hP.row (fun g' hg => setRow_other _ _ _ _ (by have := (hP.row.lt g' hg).1; omega))) (by omega), Below.setRow hP.hB (by omega) _⟩
end Go.Proofs.Ytgmhhocpdfdplaa
/- The reference's small functions on planes: Sized, Right. -/
namespace Go.Proofs.Ytgmhhocpdfdplaa
open Go.RowKit
set_option maxRecDepth 100000
set_option maxHeartbeats 2000000
theorem ref_sized (c r : Int) (w : World) : Calls Try.prog 125 #[.int .i64 c, .int .i64 r] w fun e w' => e = .returned (.int .i64 (Pl.sized c r)) ∧ w = w' := by
  unfold Pl.sized
  by_cases h1 : c < 1
  · have t1 : decide (c < 1) = true := by simpa using h1
    rw [if_pos (.inl h1)]
    go_enter Try.func125, Try.ntmps125
    go_wp2_with fail
    go_ret
    exact ⟨rfl, rfl⟩
  · have t1 : decide (c < 1) = false := by simpa using h1
    by_cases h2 : r < 1
    · have t2 : decide (r < 1) = true := by simpa using h2
      rw [if_pos (.inr h2)]
      go_enter Try.func125, Try.ntmps125
      go_wp2_with fail
      go_ret
      exact ⟨rfl, rfl⟩
    · have t2 : decide (r < 1) = false := by simpa using h2
      rw [if_neg (by omega)]
      by_cases h3 : 16384 < c
      · have t3 : decide (16384 < c) = true := by simpa using h3
        rw [if_pos (.inl h3)]
        go_enter Try.func125, Try.ntmps125
        go_wp2_with fail
        go_ret
        exact ⟨rfl, rfl⟩
      · have t3 : decide (16384 < c) = false := by simpa using h3
        have hq : 16384 / c < r ↔ 16384 < r * c := Int.ediv_lt_iff_lt_mul (by omega)
        by_cases h5 : 16384 < r
        · have t5 : decide (16384 < r) = true := by simpa using h5
          have h4 : 16384 / c < r := by
            have := Int.ediv_le_self (a := 16384) c (by omega)
            omega
          rw [if_pos (.inr h4)]
          clear hq h4
          go_enter Try.func125, Try.ntmps125
          go_wp2_with fail
          go_ret
          exact ⟨rfl, rfl⟩
        · have t5 : decide (16384 < r) = false := by simpa using h5
          obtain ⟨z, hz⟩ : ∃ z, c * r = z := ⟨_, rfl⟩
          rw [Int.mul_comm, hz] at hq
          have hz0 : 0 ≤ z := by rw [← hz]; exact Int.mul_nonneg (by omega) (by omega)
          have hz1 : z ≤ 16384 * 16384 := by rw [← hz]; exact Int.mul_le_mul (by omega) (by omega) (by omega) (by omega)
          have hzw : wrap64 z = z := IntWalk.wrap64_in _ (by omega)
          have e : (16384 < c ∨ 16384 / c < r) ↔ 16384 < z := ⟨fun h => h.elim (fun h => absurd h h3) hq.1, fun h => .inr (hq.2 h)⟩
          by_cases h6 : 16384 < z
          · rw [if_pos (e.2 h6)]
            have t6 : decide (16384 < z) = true := by simpa using h6
            clear hq e
            go_enter Try.func125, Try.ntmps125
            go_wp2_with fail
            go_ret
            exact ⟨rfl, rfl⟩
          · rw [if_neg (fun h => h6 (e.1 h))]
            have t6 : decide (16384 < z) = false := by simpa using h6
            clear hq e
            go_enter Try.func125, Try.ntmps125
            go_wp2_with fail
            go_ret
            exact ⟨rfl, rfl⟩
theorem ref_right (c r : Int) (n : Nat) (b : Option Addr) (cap : Nat) (w : World) : Calls Try.prog 66 #[.agg #[.int .i64 c, .int .i64 r, .slice b n cap]] w fun e w' => e = .returned (.bool (Pl.right c r n)) ∧ Below w.heap.size w w' := by
  obtain ⟨N, hN⟩ : ∃ N, N = w.heap.size := ⟨_, rfl⟩
  have HN := Lib.hid hN
  rw [← hN]
  clear hN
  go_enter Try.func66, Try.ntmps66
  go_upto_region 1 with fail
  refine wp_world (fun W => Blk W N #[.int .i64 c, .int .i64 r, .slice b n cap] 61 ∧ Below N w W) ⟨Blk.new' _ _ _ HN.out, (Below.refl _ _).alloc (by rw [HN.out]; exact Nat.le_refl _) _⟩ ?_
  rintro W0 ⟨b0, hB⟩
  rw [← HN.out]
  have q0 := b0.cell 0
  have q1 := b0.cell 1
  have q2 := b0.cell 2
  by_cases hs : Pl.sized c r = 0
  · obtain ⟨h1, h2, h3, h4, h5, h6⟩ := Pl.sized_ok hs
    obtain ⟨z, hz⟩ : ∃ z, c * r = z := ⟨_, rfl⟩
    rw [hz] at h5 h6
    have hw : wrap64 z = z := IntWalk.wrap64_in _ (by omega)
    have tn : Pl.right c r n = ((n : Int) == z) := by unfold Pl.right; rw [hz]; simp [hs]
    have TN := Lib.hid tn
    have hps := ref_sized c r W0
    rw [hs] at hps
    clear hs tn
    go_wp2_with (go_at_call 125; refine hps.mono ?_; rintro e w1 ⟨rfl, rfl⟩)
    go_ret
    exact ⟨by rw [TN.out]; rfl, hB⟩
  · have tn : Pl.right c r n = false := by unfold Pl.right; simp [hs]
    have TN := Lib.hid tn
    clear tn
    have hps := ref_sized c r W0
    obtain ⟨s, hss⟩ : ∃ s, Pl.sized c r = s := ⟨_, rfl⟩
    rw [hss] at hps hs
    have ts : (s == 0) = false := by simpa using hs
    have ts2 : decide (s = 0) = false := by simpa using hs
    go_wp2_with (go_at_call 125; refine hps.mono ?_; rintro e w1 ⟨rfl, rfl⟩)
    go_ret
    exact ⟨by rw [TN.out]; rfl, hB⟩
end Go.Proofs.Ytgmhhocpdfdplaa
/- The reference's functions on planes: Inside, Within. -/
namespace Go.Proofs.Ytgmhhocpdfdplaa
open Go.RowKit
set_option maxRecDepth 100000
set_option maxHeartbeats 4000000
namespace Pl
/-- Is a place in a rectangle? -/
def insB (a b h d row col : Int) : Bool := decide (a ≤ row ∧ b ≤ col ∧ row - a < h ∧ col - b < d)
end Pl
end Go.Proofs.Ytgmhhocpdfdplaa
/- Plain facts on blocks chosen and painted; a slice literal of one block. -/
namespace Go.Proofs.Ytgmhhocpdfdplaa
open Go.RowKit
set_option maxRecDepth 100000
theorem run_exec_slice1 {o : Oper} {a : Act} {w : World} (x : Operand) (ho : o.op = .buildSlice 59 1 #[(0, x)]) (b : List Int) (hx : a.eval x = .agg (ints .i16 b)) (hb : b.length = 64) :
    (execOp a.eval o).run Try.prog w = .ok (.value (.slice (some ⟨w.heap.size, 0, none⟩) 1 1)) (w.alloc (.cells (ints .i16 b) 57)) := by
  obtain ⟨i, hi⟩ : ∃ i, Try.prog.info? 57 = some i := ⟨_, rfl⟩
  have h3 : (Try.prog.info? 57).map (fun i => i.size) = some 64 := by kernel_rfl
  have h4 : (Try.prog.info? 57).bind (fun i => i.zero) = some (.agg (ints .i16 (List.replicate 64 0))) := by kernel_rfl
  rw [hi] at h3 h4
  simp only [Option.map_some, Option.some.injEq, Option.bind_some] at h3 h4
  have hf := Great.fill_whole (s := i.size) (by omega) [Value.agg (ints .i16 b)] ((Array.range (1 * i.size)).map ((Value.agg (ints .i16 (List.replicate 64 0))).cells[· % (Value.agg (ints .i16 (List.replicate 64 0))).cells.size]!))
    (by intro v hv; simp only [List.mem_singleton] at hv; subst hv; simp [Value.cells, hb, h3]) (by simp)
  have he : ([Value.agg (ints .i16 b)].flatMap fun v => v.cells.toList).toArray = ints .i16 b := by simp [Value.cells]
  rw [he] at hf
  unfold execOp
  simp only [ho, Sem.run_bind]
  rw [run_buildSlice w 59 57 1 _ (ints .i16 b) i _ Try.underlying59 hi h4 (by omega) (by omega) (by simpa [hx] using hf)]
  rfl
namespace Pl
/-- The blocks of the first i places that are chosen. -/
def sel (bs : List (List Int)) (S : Nat → Bool) (i : Nat) : List (List Int) := ((List.range i).filter S).map (blk bs)
theorem sel_zero (bs : List (List Int)) (S : Nat → Bool) : sel bs S 0 = [] := rfl
theorem sel_yes {bs : List (List Int)} {S : Nat → Bool} {i : Nat} (h : S i = true) : sel bs S (i + 1) = sel bs S i ++ [blk bs i] := by simp [sel, List.range_succ, h]
theorem sel_no {bs : List (List Int)} {S : Nat → Bool} {i : Nat} (h : S i = false) : sel bs S (i + 1) = sel bs S i := by simp [sel, List.range_succ, h]
theorem sel_right {bs : List (List Int)} (h : Right64 bs) (S : Nat → Bool) (i : Nat) : Right64 (sel bs S i) := by
  intro x hx
  simp only [sel, List.mem_map] at hx
  obtain ⟨j, _, rfl⟩ := hx
  exact blk_len h j
theorem sel_len (bs : List (List Int)) (S : Nat → Bool) (i : Nat) : (sel bs S i).length ≤ i := by
  unfold sel
  rw [List.length_map]
  exact Nat.le_trans (List.length_filter_le _ _) (by simp)
/-- The blocks of the first i places, x where chosen. -/
def pnt (bs : List (List Int)) (S : Nat → Bool) (x : List Int) (i : Nat) : List (List Int) := (List.range i).map fun j => if S j = true then x else blk bs j
theorem pnt_succ (bs : List (List Int)) (S : Nat → Bool) (x : List Int) (i : Nat) : pnt bs S x (i + 1) = pnt bs S x i ++ [if S i = true then x else blk bs i] := by simp [pnt, List.range_succ]
theorem pnt_len (bs : List (List Int)) (S : Nat → Bool) (x : List Int) (i : Nat) : (pnt bs S x i).length = i := by simp [pnt]
theorem pnt_right {bs : List (List Int)} (h : Right64 bs) (S : Nat → Bool) {x : List Int} (hx : x.length = 64) (i : Nat) : Right64 (pnt bs S x i) := by
  intro y hy
  simp only [pnt, List.mem_map] at hy
  obtain ⟨j, _, rfl⟩ := hy
  split
  · exact hx
  · exact blk_len h j
theorem blk_eq {L : List (List Int)} {i : Nat} (h : i < L.length) : L[i] = blk L i := blk_getL h
theorem Painted.eq {bs L : List (List Int)} {S : Nat → Prop} {x : List Int} (h : Painted bs L S x) (T : Nat → Bool) (hT : ∀ i, T i = true ↔ S i) : L = pnt bs T x bs.length := by
  apply List.ext_getElem
  · rw [h.len, pnt_len]
  · intro i h1 h2
    rw [blk_eq h1]
    have hi : i < bs.length := by rw [← h.len]; exact h1
    simp only [pnt, List.getElem_map, List.getElem_range]
    by_cases hs : T i = true
    · rw [if_pos hs]; exact h.yes i hi ((hT i).1 hs)
    · rw [if_neg hs]; exact h.no i hi (fun hh => hs ((hT i).2 hh))
/-- Is block i of a plane of c columns in a rectangle? -/
def insI (a b h d : Nat) (c i : Nat) : Bool := insB a b h d ((i / c : Nat) : Int) ((i % c : Nat) : Int)
theorem insI_iff (a b h d c i : Nat) : insI a b h d c i = true ↔ inR a b h d (i / c) (i % c) := by
  unfold insI insB inR
  rw [decide_eq_true_eq]
  omega
theorem range_mid {b d c : Nat} (h : b + d ≤ c) (T : Nat → Bool) (hT : ∀ j, j < c → (T j = true ↔ b ≤ j ∧ j < b + d)) : (List.range c).filter T = (List.range d).map (b + ·) := by
  obtain ⟨e, rfl⟩ : ∃ e, c = b + (d + e) := ⟨c - b - d, by omega⟩
  rw [List.range_add, List.range_add, List.map_append, List.filter_append, List.filter_append]
  have h1 : (List.range b).filter T = [] := by
    rw [List.filter_eq_nil_iff]
    intro j hj
    have hj := List.mem_range.1 hj
    rw [hT j (by omega)]
    omega
  have h2 : ((List.range d).map (b + ·)).filter T = (List.range d).map (b + ·) := by
    rw [List.filter_eq_self]
    intro j hj
    obtain ⟨t, ht, rfl⟩ := List.mem_map.1 hj
    have ht := List.mem_range.1 ht
    rw [hT _ (by omega)]
    omega
  have h3 : (((List.range e).map (d + ·)).map (b + ·)).filter T = [] := by
    rw [List.filter_eq_nil_iff]
    intro j hj
    obtain ⟨t, ht, rfl⟩ := List.mem_map.1 hj
    obtain ⟨s, hs, rfl⟩ := List.mem_map.1 ht
    have hs := List.mem_range.1 hs
    rw [hT _ (by omega)]
    omega
  rw [h1, h2, h3]
  simp
theorem take_drop_map {bs : List (List Int)} {z d : Nat} (h : z + d ≤ bs.length) : (bs.drop z).take d = (List.range d).map fun t => blk bs (z + t) := by
  apply List.ext_getElem
  · simp; omega
  · intro i h1 h2
    simp only [List.length_take, List.length_drop] at h1
    rw [List.getElem_take, List.getElem_drop, List.getElem_map, List.getElem_range, blk_eq (by omega)]
theorem sel_rows {bs : List (List Int)} {c r a b h d : Nat} (hn : bs.length = c * r) (h1 : a + h ≤ r) (h2 : b + d ≤ c) (hd : 1 ≤ d) : ∀ k, k ≤ r → sel bs (insI a b h d c) (k * c) = win bs c a b d (min (k - a) h) := by
  intro k
  induction k with
  | zero => intro _; simp [sel, win]
  | succ k ih =>
    intro hk
    have hc : 0 < c := by omega
    have hdm : ∀ j, j < c → (k * c + j) / c = k ∧ (k * c + j) % c = j := fun j hj => by
      rw [Nat.add_comm, Nat.add_mul_div_right _ _ hc, Nat.add_mul_mod_self_right, Nat.div_eq_of_lt hj, Nat.mod_eq_of_lt hj]
      omega
    have e : sel bs (insI a b h d c) ((k + 1) * c) = sel bs (insI a b h d c) (k * c) ++ ((List.range c).filter fun j => insI a b h d c (k * c + j)).map fun j => blk bs (k * c + j) := by
      unfold sel
      rw [Nat.add_mul, Nat.one_mul, List.range_add, List.filter_append, List.map_append, List.filter_map, List.map_map]
      rfl
    rw [e, ih (by omega)]
    have hT : ∀ j, j < c → (insI a b h d c (k * c + j) = true ↔ (a ≤ k ∧ k < a + h) ∧ b ≤ j ∧ j < b + d) := fun j hj => by
      rw [insI_iff, (hdm j hj).1, (hdm j hj).2]
      unfold inR
      omega
    by_cases hin : a ≤ k ∧ k < a + h
    · rw [range_mid h2 _ (fun j hj => by rw [hT j hj]; exact ⟨fun h => h.2, fun h => ⟨hin, h⟩⟩)]
      have e1 : min (k - a) h = k - a := by omega
      have e2 : min (k + 1 - a) h = k - a + 1 := by omega
      have e3 : a + (k - a) = k := by omega
      rw [e1, e2, win_succ, e3, List.map_map]
      congr 1
      have hf := row_fits hn h1 h2 (show k - a < h by omega)
      rw [e3] at hf
      rw [take_drop_map (by omega)]
      apply List.map_congr_left
      intro t _
      simp only [Function.comp]
      rw [Nat.add_assoc]
    · have e1 : (List.range c).filter (fun j => insI a b h d c (k * c + j)) = [] := by
        rw [List.filter_eq_nil_iff]
        intro j hj
        rw [hT j (List.mem_range.1 hj)]
        exact fun h => hin h.1
      have e2 : min (k + 1 - a) h = min (k - a) h := by omega
      rw [e1, e2]
      simp
theorem sel_win {bs : List (List Int)} {c r a b h d : Nat} (hn : bs.length = c * r) (h1 : a + h ≤ r) (h2 : b + d ≤ c) (hd : 1 ≤ d) : sel bs (insI a b h d c) bs.length = win bs c a b d h := by
  have h3 := sel_rows hn h1 h2 hd r (Nat.le_refl _)
  rw [Nat.mul_comm, ← hn] at h3
  rw [h3]
  congr 1
  omega
end Pl
end Go.Proofs.Ytgmhhocpdfdplaa
/- 'wp_region_mono' where some of the front's operations (they yield one value in every world: 'late') may come behind the tail's first ones. Over any program. -/
namespace Go.Proofs.Ytgmhhocpdfdplaa
open Go.RowKit
/-- Yields alike in every world. -/
def Inert (P : Program) (o : Oper) : Prop := ∀ (ρ : Operand → Value) (v : Value) (w : World), (execOp ρ o).run P w = .ok (.value v) w → ∀ w', (execOp ρ o).run P w' = .ok (.value v) w'
theorem inert_extract {P : Program} {o : Oper} {x : Operand} {i : Nat} (h : o.op = .extract x i) : Inert P o := by
  intro ρ v w hv w'
  unfold execOp at hv ⊢
  simp only [h, Instr.extract] at hv ⊢
  cases hx : ρ x <;> rw [hx] at hv <;> simp_all
  split at hv <;> simp_all
def inertB (o : Oper) : Bool := match o.op with | .extract _ _ => o.guard == none | _ => false
theorem inertB_spec {P : Program} {o : Oper} (h : inertB o = true) : Inert P o ∧ o.guard = none := by
  unfold inertB at h
  split at h
  · rename_i x i ho
    exact ⟨inert_extract ho, by simpa using h⟩
  · cases h
section
variable {P : Program} {ops : Array Oper} {md : Region.Mode} {G : World → Prop} {sp : Nat → Option MSpec} {dep : Nat → List Nat} {Fr : Nat → Bool} {Q : Exit → Act → World → Prop}
/-- Whatever may come up beside j is apart from it. -/
def lateFree (md : Region.Mode) (ops : Array Oper) (j : Nat) : Bool :=
  match ops[j]? with
  | none => false
  | some o => (List.range ops.size).all fun k => k == j || (edgesOf md ops k).contains j || (mark md ops (List.range j).reverse (edgesOf md ops j)).contains k || (match ops[k]? with | some ok => o.apart ops ok | none => true)
theorem detM_soundL (late : Nat → Bool) (hsel : Region.noSelect ops = true) (base k : Nat) (hmono : ∀ i s, sp i = some s → ∀ args v, (s.fa args v).Mono)
    (hlate : ∀ j, late j = true → Fr j = true ∧ sp j = none ∧ lateFree md ops j = true ∧ ∀ o, ops[j]? = some o → Inert P o ∧ o.guard = none)
    (htail : ∀ i, i < ops.size → ¬ Fr i = true → ∀ j, Fr j = true → j ∈ mark md ops (List.range i).reverse (edgesOf md ops i) ∨ late j = true) :
    ∀ (n : Nat) (listed : Array Bool) (a : Act) (Fs : Nat → Option Fact), (∀ i f, Fs i = some f → Fact.Mono f) → (∀ i f, Fs i = some f → listed.getD i false = true) → Closed md ops listed →
      detM P md ops G sp dep Fr (fun listed a Fs => ∀ w, G w → Inv base Fs w → wpAny P md ops (onlyN Q) k listed a w) n listed a Fs → ∀ w, G w → Inv base Fs w → wpAny P md ops (onlyN Q) (n + k) listed a w
  | 0, listed, a, Fs, _, _, _, h, w, hGw, hI => by rw [Nat.zero_add]; exact h.2 w hGw hI
  | n + 1, listed, a, Fs, hFm, hFl, hcl, h, w, hGw, hI => by
    obtain ⟨⟨i0, hi0, hi0m⟩, h⟩ := h
    rw [Nat.add_right_comm]
    by_cases hex : ∃ j ∈ Region.ready md ops listed, late j = true
    · obtain ⟨j, hj, hjl⟩ := hex
      obtain ⟨hjF, hjs, hjfree, hjin⟩ := hlate j hjl
      obtain ⟨o, ho, hst⟩ := h j hj hjF
      obtain ⟨hin, hg⟩ := hjin o ho
      rcases hst with ⟨hw, _⟩ | ⟨hw, hst⟩
      · simp [Region.wanted, hg] at hw
      · rw [hjs] at hst
        obtain ⟨v, hv, hst⟩ := hst
        refine wpAny_inert hsel ho hg (n + k) listed a w (hin _ _ _ (hv w hGw)) hj ?_ ?_
        · intro i oi hoi hij hun hno
          unfold lateFree at hjfree
          simp only [ho, List.all_eq_true, List.mem_range, Bool.or_eq_true, beq_iff_eq, List.contains_iff_mem] at hjfree
          have h1 := hjfree i (Array.getElem?_eq_some_iff.1 hoi).1
          simp only [hoi] at h1
          rcases h1 with ((h1 | h1) | h1) | h1
          · exact absurd h1 hij
          · obtain ⟨e, h2, h3, h4⟩ := (mem_edgesOf hoi).1 h1
            exact absurd h4 (hno e h2 h3)
          · obtain ⟨_, oj, hoj, hall⟩ := mem_ready.1 hj
            have h2 := mark_listed hcl _ _ (fun x hx => by
              obtain ⟨e, he, hb, rfl⟩ := (mem_edgesOf hoj).1 hx
              exact hall e he hb) i h1
            rcases Nat.lt_or_ge i listed.size with h' | h'
            · simp [h'] at hun h2; rw [hun] at h2; cases h2
            · simp [Array.getElem?_eq_none h'] at h2
          · exact h1
        · exact detM_soundL late hsel base k hmono hlate htail n _ _ Fs hFm (fun k f hk => getD_set_true (hFl k f hk)) (hcl.set hj) hst w hGw hI
    · refine ⟨fun hr => (by rw [hr] at hi0; cases hi0), fun i hi => ?_⟩
      by_cases him : Fr i = true
      · obtain ⟨o, ho, hst⟩ := h i hi him
        have hil : listed.getD i true = false := (mem_ready.1 hi).1
        have hil2 : i < listed.size := by
          rcases Nat.lt_or_ge i listed.size with h' | h'
          · exact h'
          · simp [Array.getElem?_eq_none h'] at hil
        have hFi : Fs i = none := by
          cases hf : Fs i with
          | none => rfl
          | some f =>
            have := hFl i f hf
            simp [hil2] at hil this
            rw [hil] at this; cases this
        have hFl' : ∀ k f, Fs k = some f → (listed.setIfInBounds i true).getD k false = true := fun k f hk => getD_set_true (hFl k f hk)
        unfold Go.wpOp
        simp only [ho]
        rcases hst with ⟨hw, hst⟩ | ⟨hw, hst⟩
        · simp only [hw, Bool.false_eq_true, if_false]
          exact detM_soundL late hsel base k hmono hlate htail n _ _ Fs hFm hFl' (hcl.set hi) hst w hGw hI
        · simp only [hw, if_true]
          refine .inl ?_
          unfold Oper.wp
          cases hs : sp i with
          | none =>
            rw [hs] at hst
            obtain ⟨v, hv, hst⟩ := hst
            rw [hv w hGw]
            exact detM_soundL late hsel base k hmono hlate htail n _ _ Fs hFm hFl' (hcl.set hi) hst w hGw hI
          | some s =>
            rw [hs] at hst
            obtain ⟨_, hrun, hst⟩ := hst
            have hr := hrun w hGw (fun d _ f hf => by obtain ⟨_, I, hI1, _⟩ := hI; exact ⟨_, _, (hI1 d f hf).2.2.2⟩)
            have next : ∀ v w', s.pv (opArgs a o) v → G w' → Below w.heap.size w w' → s.fa (opArgs a o) v w.heap.size w'.heap.size w' →
                wpAny P md ops (onlyN Q) (n + k) (listed.setIfInBounds i true) (a.put o.dst v) w' := by
              intro v w' hpv hG' hB hfa
              refine detM_soundL late hsel base k hmono hlate htail n _ _ _ ?_ ?_ (hcl.set hi) (hst v hpv) w' hG' ?_
              · intro j f hj
                unfold upd at hj
                split at hj
                · obtain rfl := Option.some.inj hj; exact hmono i s hs _ _
                · exact hFm j f hj
              · intro j f hj
                unfold upd at hj
                split at hj
                · rename_i e; subst e; simp [hil2]
                · exact hFl' j f hj
              · obtain ⟨hbase, I, hI1, hI2⟩ := hI
                refine ⟨Nat.le_trans hbase hB.size, fun j => if j = i then (w.heap.size, w'.heap.size) else I j, ?_, ?_⟩
                · intro j f hj
                  unfold upd at hj
                  split at hj
                  · rename_i e; subst e
                    obtain rfl := Option.some.inj hj
                    simp only [if_true]
                    exact ⟨hbase, hB.size, Nat.le_refl _, hfa⟩
                  · rename_i e
                    simp only [e, if_false]
                    obtain ⟨q1, q2, q3, q4⟩ := hI1 j f hj
                    exact ⟨q1, q2, Nat.le_trans q3 hB.size, hFm j f hj _ _ _ _ q4 q3 hB⟩
                · intro x y fx fy hxy hx hy
                  unfold upd at hx hy
                  by_cases ex : x = i
                  · by_cases ey : y = i
                    · exact absurd (ex.trans ey.symm) hxy
                    · simp only [ex, ey, if_true, if_false] at hx hy ⊢
                      exact .inr (hI1 y fy hy).2.2.1
                  · by_cases ey : y = i
                    · simp only [ex, ey, if_true, if_false] at hx hy ⊢
                      exact .inl (hI1 x fx hx).2.2.1
                    · simp only [ex, ey, if_false] at hx hy ⊢
                      exact hI2 x y fx fy hxy hx hy
            generalize (execOp a.eval o).run P w = r at hr
            cases r with
            | ok nx w1 =>
              cases nx <;> simp only [RunM, Oper.upon] at hr ⊢
              case value v => exact next v w1 hr.1 hr.2.1 hr.2.2.1 hr.2.2.2
              case enter f al =>
                refine Calls.mono hr fun e w2 he => ?_
                obtain ⟨v, rfl, h1, h2, h3, h4⟩ := he
                exact next v w2 h1 h2 h3 h4
            | halt x w1 => simp [RunM] at hr
      · exfalso
        obtain ⟨_, o, ho, hall⟩ := mem_ready.1 hi
        rcases htail i (Array.getElem?_eq_some_iff.1 ho).1 him i0 hi0m with hm | hm
        · have h1 := mark_listed hcl _ _ (fun x hx => by
            obtain ⟨e, he, hb, rfl⟩ := (mem_edgesOf ho).1 hx
            exact hall e he hb) i0 hm
          have h0 := (mem_ready.1 hi0).1
          rcases Nat.lt_or_ge i0 listed.size with h' | h'
          · simp [h'] at h0 h1; rw [h0] at h1; cases h1
          · simp [Array.getElem?_eq_none h'] at h1
        · exact hex ⟨i0, hi0, hm⟩
end
def monoOkL (dep : Nat → List Nat) (late ord tl : List Nat) (l : List Oper) : Bool :=
  Region.noSelect l.toArray && decide (ord.length + tl.length = l.length) && tl.all (fun i => decide (i < l.length)) && ord.all (fun i => decide (i < l.length)) && frontOk .any l.toArray dep ord (Array.replicate l.length false) &&
  (Region.ready .any l.toArray (setAll ord (Array.replicate l.length false))).all (fun j => !ord.contains j) &&
  tailOrder .any l.toArray tl (setAll ord (Array.replicate l.length false)) &&
  (late.all fun j => ord.contains j && lateFree .any l.toArray j && inertB (l.getD j default)) &&
  (List.range l.length).all fun i => ord.contains i || ord.all fun j => (mark .any l.toArray (List.range i).reverse (edgesOf .any l.toArray i)).contains j || late.contains j
theorem wp_region_late {P : Program} {id : Nat} {l : List Oper} {Q : Exit → Act → World → Prop} {a : Act} {w : World} (late ord tl : List Nat) (G : World → Prop) (sp : Nat → Option MSpec) (dep : Nat → List Nat) (hm : P.follows .mixedOrders = true)
    (hok : monoOkL dep late ord tl l = true) (hsp : ∀ j ∈ late, sp j = none) (hG : G w.drew) (hmono : ∀ i s, sp i = some s → ∀ args v, (s.fa args v).Mono)
    (h : monoL P l.toArray G sp dep (fun a Fs => ∀ w', G w' → Inv w.heap.size Fs w' → wpList P l.toArray (onlyN Q) (pick l tl) a w') (ord.zip (pick l ord)) a (fun _ => none)) : (Code.region id l.toArray true).wp P Q a w := by
  simp only [monoOkL, Bool.and_eq_true, decide_eq_true_eq, List.all_eq_true, Bool.or_eq_true, List.mem_range, List.contains_iff_mem, Bool.not_eq_true'] at hok
  obtain ⟨⟨⟨⟨⟨⟨⟨⟨hsel, hlen⟩, htl⟩, hord⟩, hfront⟩, hready⟩, htail⟩, hlt⟩, hedge⟩ := hok
  have hzip := zip_pick l ord hord
  have h := monoL_list _ hzip.2 _ _ h
  rw [hzip.1] at h
  have hd := detM_list (md := .any) (P := P) (G := G) (sp := sp) (dep := dep) (Fr := fun j => ord.contains j) (ops := l.toArray) ⟨_, hG⟩ hsel _ ord (Array.replicate l.length false) a (fun _ => none)
    (fun i hi => by simpa using hi) (fun j hj hc => by have := hready j hj; rw [hc] at this; cases this) hfront h
  have hfin : ∀ (n : Nat) (listed : Array Bool) (a : Act) (Fs : Nat → Option Fact), detM P .any l.toArray G sp dep (fun j => ord.contains j) (fun li a Fs => li = setAll ord (Array.replicate l.length false) ∧ ∀ w', G w' → Inv w.heap.size Fs w' → wpList P l.toArray (onlyN Q) (pick l tl) a w') n listed a Fs →
      detM P .any l.toArray G sp dep (fun j => ord.contains j) (fun li a Fs => ∀ w', G w' → Inv w.heap.size Fs w' → wpAny P .any l.toArray (onlyN Q) tl.length li a w') n listed a Fs := by
    intro n
    induction n with
    | zero =>
      intro listed a Fs h
      refine ⟨h.1, fun w' hG' hI => ?_⟩
      obtain ⟨_, rfl, h2⟩ := h
      exact wpAny_tail (P := P) (md := .any) (Q := onlyN Q) (ops := l.toArray) tl (pick l tl) _ a w' (pick_spec l tl htl) htail (h2 w' hG' hI)
    | succ n ih =>
      intro listed a Fs h
      exact ⟨h.1, fun i hi him => by obtain ⟨o, ho, hs⟩ := h.2 i hi him; exact ⟨o, ho, hs.mono fun a' Fs' h' => ih _ a' Fs' h'⟩⟩
  have hs := detM_soundL (P := P) (Q := Q) (md := .any) (fun j => late.contains j) hsel w.heap.size tl.length hmono (fun j hj => by
      have hj : j ∈ late := by simpa using hj
      obtain ⟨⟨h1, h2⟩, h3⟩ := hlt j hj
      refine ⟨by simpa using h1, hsp j hj, h2, fun o ho => ?_⟩
      have e : l.getD j default = o := by
        rw [List.getElem?_toArray] at ho
        rw [List.getD_eq_getElem?_getD, ho]; rfl
      rw [e] at h3
      exact inertB_spec h3) (fun i hi hmi j hj => by
    rcases hedge i (by simpa using hi) with h1 | h1
    · exact absurd (by simpa using h1) hmi
    · rcases h1 j (by simpa using hj) with h2 | h2
      · exact .inl h2
      · exact .inr (by simpa using h2)) ord.length (Array.replicate l.length false) a (fun _ => none) (fun _ _ h => by cases h) (fun _ _ h => by cases h)
    (fun k hk => by simp [Array.getElem?_replicate] at hk; split at hk <;> simp at hk) (hfin _ _ _ _ hd) w.drew hG
    ⟨Nat.le_refl _, fun _ => (0, 0), ⟨(fun _ _ h => by cases h), (fun _ _ _ _ _ h => by cases h)⟩⟩
  refine wp_region_any hm ?_
  have e : ord.length + tl.length = l.toArray.size := by simpa using hlen
  rw [e] at hs
  simpa using wpAny_onlyN _ _ _ _ hs
end Go.Proofs.Ytgmhhocpdfdplaa
/- plane.Moved at any function value. -/
namespace Go.Proofs.Ytgmhhocpdfdplaa
open Go.RowKit
set_option maxRecDepth 100000
set_option maxHeartbeats 8000000
theorem Sheet.setRowN {W : World} {lo b c r : Nat} {u : Value} {bs : List (List Int)} {k : Nat} (h : Pl.Sheet W lo b c r u bs) (hb : b ≠ k) (hu : ∀ g, u.ownBlock = some g → g ≠ k) (ds : Array Value) : Pl.Sheet (W.setRow k ds) lo b c r u bs :=
  ⟨h.box.rowOther _ _ hb, h.row.same fun g hg => setRow_other _ _ _ _ (hu g hg), h.h64, h.len⟩
theorem Sheet.low {W : World} {lo lo' b c r : Nat} {u : Value} {bs : List (List Int)} (h : Pl.Sheet W lo b c r u bs) (hl : lo' ≤ lo) : Pl.Sheet W lo' b c r u bs := ⟨h.box, h.row.down hl, h.h64, h.len⟩
theorem sheet_set_i (lo b c r : Nat) (u : Value) (bs : List (List Int)) (i : Nat) (x : List Int) (hx : x.length = 64) (hi : i < c * r) (hcr : c * r ≤ 16384) (w : World) (h : Pl.Sheet w lo b c r u bs) :
    Calls Try.prog 147 #[.pointer (some ⟨b, 0, none⟩), .int .i64 ((i : Int) / (c : Int)), .int .i64 ((i : Int) % (c : Int)), .agg (ints .i16 x)] w fun e w' => e = .returned (.bool true) ∧ Pl.Sheet w' lo b c r u (bs.set i x) ∧ w.heap.size ≤ w'.heap.size ∧ w'.os = w.os ∧ w'.tape = w.tape ∧ w'.output = w.output ∧ ∀ k, k < w.heap.size → u.ownBlock ≠ some k → w'.heap[k]? = w.heap[k]? := by
  have hc : 0 < c := Nat.pos_of_ne_zero fun e => by rw [e, Nat.zero_mul] at hi; omega
  have h1 : i / c < r := Nat.div_lt_of_lt_mul hi
  have h2 : i % c < c := Nat.mod_lt _ hc
  have h3 : i / c * c + i % c = i := by have := Nat.div_add_mod i c; rw [Nat.mul_comm] at this; exact this
  have h4 := sheet_set lo b c r u bs (i / c) (i % c) x hx h1 h2 hcr w h
  rw [h3, Int.natCast_ediv, Int.natCast_emod] at h4
  exact h4
namespace Pl
structure MB (N M bw c r : Nat) (vw : Value) (bs : List (List Int)) (bo cols rows : Nat) (vo : Value) (O : List (List Int)) (w W : World) : Prop where
  bO : Blk W (N + 1) #[.int .i64 0, .int .i64 0, .slice none 0 0] 61
  sp : Sheet W N bw c r vw bs
  so : Sheet W M bo cols rows vo O
  hB : Below N w W
theorem MB.below {N M bw c r : Nat} {vw : Value} {bs : List (List Int)} {bo cols rows : Nat} {vo : Value} {O : List (List Int)} {w W W' : World} (h : MB N M bw c r vw bs bo cols rows vo O w W) (hb : Below W.heap.size W W') : MB N M bw c r vw bs bo cols rows vo O w W' :=
  ⟨h.bO.below hb h.bO.lt, h.sp.below hb, h.so.below hb, h.hB.trans (hb.mono (by have := h.bO.lt; omega))⟩
theorem MB.setRow {N M bw c r : Nat} {vw : Value} {bs : List (List Int)} {bo cols rows : Nat} {vo : Value} {O : List (List Int)} {w W0 W : World} {k : Nat} (h : MB N M bw c r vw bs bo cols rows vo O w W) (h0 : MB N M bw c r vw bs bo cols rows vo O w W0) (hk : W0.heap.size ≤ k) (ds : Array Value) : MB N M bw c r vw bs bo cols rows vo O w (W.setRow k ds) :=
  ⟨h.bO.rowOther _ _ (by have := h0.bO.lt; omega), Sheet.setRowN h.sp (by have := h0.sp.box.lt; omega) (fun g hg => by have := (h0.sp.row.lt g hg).2; omega) _, Sheet.setRowN h.so (by have := h0.so.box.lt; omega) (fun g hg => by have := (h0.so.row.lt g hg).2; omega) _, Below.setRow h.hB (by have := h0.bO.lt; omega) _⟩
end Pl
theorem plane_moved_g (gf : Nat) (cap1 : Array Value) (S : World → Prop) (src : Nat → Nat × Nat) (c r cols rows : Nat) (u : Value) (bs : List (List Int)) (h64 : Right64 bs) (hr : Pl.right c r bs.length = true) (hn : bs.length = c * r) (hs : Pl.sized cols rows = 0)
    (hsrc : ∀ k, k < cols * rows → (src k).1 < r ∧ (src k).2 < c) (heg : ∀ args w, (callFunc gf args).run Try.prog w = .ok (.enter gf args) w) (w : World) (hS0 : ∀ W, Below w.heap.size w W → S W)
    (hfn : ∀ k, k < cols * rows → ∀ W, S W → Calls Try.prog gf (#[.int .i64 ((k : Int) / (cols : Int)), .int .i64 ((k : Int) % (cols : Int))] ++ cap1) W fun e w' => e = .returned (.tuple #[.int .i64 (src k).1, .int .i64 (src k).2]) ∧ Below W.heap.size W w') (hA : Ar w 64 u bs.length (bcells bs)) :
    Calls Try.prog 132 #[.agg #[.int .i64 c, .int .i64 r, u], .int .i64 cols, .int .i64 rows, .func (.func gf) #[] cap1] w fun e w' => Below w.heap.size w w' ∧
      ∃ v, e = .returned (.tuple #[.agg #[.int .i64 cols, .int .i64 rows, v], .int .i64 0]) ∧ Row w' w.heap.size 57 64 v (cols * rows) (bcells ((List.range (cols * rows)).map fun k => Pl.blk bs ((src k).1 * c + (src k).2))) := by
  obtain ⟨bu, cap, rfl, -, -⟩ := hA.len
  obtain ⟨N, hN⟩ : ∃ N, N = w.heap.size := ⟨_, rfl⟩
  have HN := Lib.hid hN
  rw [← hN]
  clear hN
  obtain ⟨j1, j2, j3, j4, j5, j6⟩ := Pl.sized_ok hs
  have hcr : c * r ≤ 16384 := by
    rw [← hn]
    exact (Pl.right_nat hr).2.2.2.2.2
  obtain ⟨z, hz⟩ : ∃ z : Nat, cols * rows = z := ⟨_, rfl⟩
  have hzi : (cols : Int) * (rows : Int) = (z : Int) := by rw [← hz]; push_cast; rfl
  rw [hzi] at j5 j6
  have hzw : wrap64 (z : Int) = (z : Int) := IntWalk.wrap64_in _ (by clear hzi hz hs hr hn; omega)
  have hof := fun W hA => plane_of c r (.slice bu bs.length cap) bs h64 hr hn W hA
  have hnew := fun W => plane_new cols rows hs W
  rw [hz] at hsrc hfn ⊢
  have HZ := Lib.hid hz
  have HSRC := Lib.hid hsrc
  have HFN := Lib.hid (fun k hk W (hb : Below N w W) => hfn k hk W (hS0 W (by rw [← HN.out]; exact hb)))
  clear hsrc hfn hS0
  have HCR := Lib.hid hcr
  clear hr hn hs hz hcr
  go_enter Try.func132, Try.ntmps132
  go_upto_region 1 with fail
  refine wp_world (fun W => (Blk W N #[.int .i64 c, .int .i64 r, .slice bu bs.length cap] 61 ∧ Blk W (N + 1) #[.int .i64 0, .int .i64 0, .slice none 0 0] 61) ∧ Below N w W) ⟨⟨(Blk.new' _ _ _ HN.out).alloc _, Blk.new' _ _ _ (by simp [HN.out])⟩, ((Below.refl _ _).alloc (by rw [HN.out]; exact Nat.le_refl _) _).alloc (by rw [HN.out]; simp) _⟩ ?_
  rintro W0 ⟨⟨b0, b1⟩, hB⟩
  rw [← HN.out]
  have hN0 := b0.lt
  have hof := hof W0 (hA.below (by rw [← HN.out]; exact hB))
  go_upto_region 7 with (first
    | (refine wpList_load_row rfl 61 _ rfl N rfl 61 _ _ _ b0 Try.underlying61 rfl (by kernel_rfl) ?_)
    | (go_at_call 145; refine hof.mono ?_; rintro e w1 ⟨bw, vw, rfl, hSw, hbw, hb⟩)
    | (go_at_call 74; refine (hnew _).mono ?_; rintro e w2 ⟨bo, vo, rfl, hSo, hbo, hb2⟩))
  obtain ⟨M, hM⟩ : ∃ M, M = w1.heap.size := ⟨_, rfl⟩
  rw [← hM] at hSo hbo
  have hbM : bw < M := by rw [hM]; exact hSw.box.lt
  have huM : ∀ g, vw.ownBlock = some g → g < M := fun g hg => by rw [hM]; exact (hSw.row.lt g hg).2
  have hNM : N + 1 < M := by rw [hM]; exact (b1.below hb b1.lt).lt
  have hMB : Pl.MB N M bw c r vw bs bo cols rows vo (List.replicate (cols * rows) (List.replicate 64 0)) w w2 :=
    ⟨(b1.below hb b1.lt).below hb2 (b1.below hb b1.lt).lt, Sheet.low (hSw.below hb2) (by omega), hSo, (hB.trans (hb.mono (by omega))).trans (hb2.mono (by omega))⟩
  refine wp_world (fun W => Pl.MB N M bw c r vw bs bo cols rows vo (List.replicate (cols * rows) (List.replicate 64 0)) w W) hMB ?_
  clear hMB hM hSo hSw hb hb2 hB b0 b1 hN0 hof hnew hbw hbo
  rintro W1 hMB
  go_wp2_with fail
  go_loopw [38] (fun i W => ∃ (k : Nat) (O : List (List Int)), k ≤ z ∧ i = .int .i64 k ∧ O.length = z ∧ (∀ j, j < k → Pl.blk O j = Pl.blk bs ((src j).1 * c + (src j).2)) ∧ Pl.MB N M bw c r vw bs bo cols rows vo O w W) (fun i _ => z - (intOf i).toNat)
  case atStart => exact ⟨0, _, Nat.zero_le _, rfl, by simpa using HZ.out, fun j hj => absurd hj (by omega), hMB⟩
  case round =>
    clear hMB hzi hzw
    obtain ⟨k, O, hk, rfl, hOl, hO, hMB⟩ := hrel
    by_cases hlt : k < z
    · have tk : decide (k < z) = true := by simpa using hlt
      go_upto_region 10 with fail
      have hcN : ¬ cols = 0 := by omega
      have hq1 : IntKind.i64.wrap ((k : Int) / (cols : Int)) = (k : Int) / (cols : Int) := by
        have := IntWalk.i64_quo k cols (by omega)
        rwa [Int.tdiv_eq_ediv_of_nonneg (by omega)] at this
      have hkr : k / cols < rows := Nat.div_lt_of_lt_mul (by rw [HZ.out]; exact hlt)
      have hkc : k % cols < cols := Nat.mod_lt _ (by omega)
      have hsk := HSRC.out k hlt
      have hfk := HFN.out k hlt
      have hat := fun W hW => sheet_at N bw c r vw bs (src k).1 (src k).2 hsk.1 hsk.2 HCR.out W hW
      have hx64 := Pl.blk_len h64 ((src k).1 * c + (src k).2)
      have hxe : Pl.blk bs ((src k).1 * c + (src k).2) = Pl.blk bs ((src k).1 * c + (src k).2) := rfl
      have HXE := Lib.hid hxe
      clear hxe hkc
      generalize hxv : Pl.blk bs ((src k).1 * c + (src k).2) = xv at hat hx64
      have HXV := Lib.hid hxv
      clear hxv HXE
      have hGm : ∀ W W', Pl.MB N M bw c r vw bs bo cols rows vo O w W → Below W.heap.size W W' → Pl.MB N M bw c r vw bs bo cols rows vo O w W' := fun W W' h hb => h.below hb
      refine wp_region_late [14] [0, 1, 2, 3, 4, 5, 6, 7, 8, 9, 10, 11, 12, 13, 14, 15] [16, 17] (fun W => Pl.MB N M bw c r vw bs bo cols rows vo O w W)
        (fun | 8 => some (sFix (.tuple #[.int .i64 (src k).1, .int .i64 (src k).2])) | 11 => some (sFix (.tuple #[.agg (ints .i16 xv), .bool true])) | 15 => some (sNew (ints .i16 (List.replicate 64 0)) 57) | _ => none)
        (fun _ => []) (by kernel_rfl) (by kernel_rfl) (by intro j hj; simp at hj; subst hj; rfl) (hGm _ _ hMB (Below.refl _ _).drew) ?_ ?_
      · intro i s hs
        match i with
        | 8 => cases hs; exact fun _ _ => sFix_mono _ _ _
        | 11 => cases hs; exact fun _ _ => sFix_mono _ _ _
        | 15 => cases hs; exact fun _ _ => sNew_mono _ _ _ _
      simp only [pick, List.getD_cons_succ, List.getD_cons_zero, List.zip_cons_cons, List.zip_nil_right]
      (first | (refine mono_skip (by rfl) ?_; simp only [Act.put, List.setIfInBounds_toArray, List.set_cons_zero, List.set_cons_succ]) | (refine mono_pure (v := ?_) (by rfl) rfl ?_ ?_; rotate_left; (intro wS hS; go_simp; try with_reducible rfl); simp only [Act.put, List.setIfInBounds_toArray, List.set_cons_zero, List.set_cons_succ]))
      (first | (refine mono_skip (by rfl) ?_; simp only [Act.put, List.setIfInBounds_toArray, List.set_cons_zero, List.set_cons_succ]) | (refine mono_pure (v := ?_) (by rfl) rfl ?_ ?_; rotate_left; (intro wS hS; go_simp; try with_reducible rfl); simp only [Act.put, List.setIfInBounds_toArray, List.set_cons_zero, List.set_cons_succ]))
      (first | (refine mono_skip (by rfl) ?_; simp only [Act.put, List.setIfInBounds_toArray, List.set_cons_zero, List.set_cons_succ]) | (refine mono_pure (v := ?_) (by rfl) rfl ?_ ?_; rotate_left; (intro wS hS; go_simp; try with_reducible rfl); simp only [Act.put, List.setIfInBounds_toArray, List.set_cons_zero, List.set_cons_succ]))
      (first | (refine mono_skip (by rfl) ?_; simp only [Act.put, List.setIfInBounds_toArray, List.set_cons_zero, List.set_cons_succ]) | (refine mono_pure (v := ?_) (by rfl) rfl ?_ ?_; rotate_left; (intro wS hS; go_simp; try with_reducible rfl); simp only [Act.put, List.setIfInBounds_toArray, List.set_cons_zero, List.set_cons_succ]))
      refine mono_pure (v := .int .i64 ((k : Int) / (cols : Int))) (by rfl) rfl (fun w1 hS => by go_simp) ?_
      simp only [Act.put, List.setIfInBounds_toArray, List.set_cons_zero, List.set_cons_succ]
      (first | (refine mono_skip (by rfl) ?_; simp only [Act.put, List.setIfInBounds_toArray, List.set_cons_zero, List.set_cons_succ]) | (refine mono_pure (v := ?_) (by rfl) rfl ?_ ?_; rotate_left; (intro wS hS; go_simp; try with_reducible rfl); simp only [Act.put, List.setIfInBounds_toArray, List.set_cons_zero, List.set_cons_succ]))
      (first | (refine mono_skip (by rfl) ?_; simp only [Act.put, List.setIfInBounds_toArray, List.set_cons_zero, List.set_cons_succ]) | (refine mono_pure (v := ?_) (by rfl) rfl ?_ ?_; rotate_left; (intro wS hS; go_simp; try with_reducible rfl); simp only [Act.put, List.setIfInBounds_toArray, List.set_cons_zero, List.set_cons_succ]))
      refine mono_pure (v := .int .i64 ((k : Int) % (cols : Int))) (by rfl) rfl (fun w1 hS => by go_simp; exact Int.tmod_eq_emod_of_nonneg (by omega)) ?_
      simp only [Act.put, List.setIfInBounds_toArray, List.set_cons_zero, List.set_cons_succ]
      refine mono_fix (.tuple #[.int .i64 (src k).1, .int .i64 (src k).2]) (by rfl) rfl hGm (by intro w hG; go_simp; first | done | exact heg _ _ | exact ⟨rfl, rfl⟩) (fun w1 hG hH => hfk w1 hG.hB) ?_
      simp only [Act.put, List.setIfInBounds_toArray, List.set_cons_zero, List.set_cons_succ]
      (repeat (first | (refine mono_skip (by rfl) ?_; simp only [Act.put, List.setIfInBounds_toArray, List.set_cons_zero, List.set_cons_succ]) | (refine mono_pure (v := ?_) (by rfl) rfl ?_ ?_; rotate_left; (intro wS hS; go_simp; try with_reducible rfl); simp only [Act.put, List.setIfInBounds_toArray, List.set_cons_zero, List.set_cons_succ])))
      refine mono_fix (.tuple #[.agg (ints .i16 xv), .bool true]) (by rfl) rfl hGm (by intro w hG; go_simp; first | done | exact ⟨rfl, rfl⟩) (fun w1 hG hH => hat w1 hG.sp) ?_
      simp only [Act.put, List.setIfInBounds_toArray, List.set_cons_zero, List.set_cons_succ]
      (repeat (first | (refine mono_skip (by rfl) ?_; simp only [Act.put, List.setIfInBounds_toArray, List.set_cons_zero, List.set_cons_succ]) | (refine mono_pure (v := ?_) (by rfl) rfl ?_ ?_; rotate_left; (intro wS hS; go_simp; try with_reducible rfl); simp only [Act.put, List.setIfInBounds_toArray, List.set_cons_zero, List.set_cons_succ])))
      refine mono_alloc (ints .i16 (List.replicate 64 0)) 57 (by rfl) rfl hGm (fun w => run_alloc_blk w rfl) ?_
      intro gx
      simp only [Act.put, List.setIfInBounds_toArray, List.set_cons_zero, List.set_cons_succ]
      refine mono_nil ?_
      rintro w3 hG ⟨_, I, hI1, _⟩
      obtain ⟨hg0, hg1, hg2, g', hge, hg3, -, hgb⟩ := hI1 15 _ (upd_self _ _ _)
      obtain rfl : gx = g' := by simpa using hge
      have hlo := Nat.le_trans hg0 hg3
      go_wp2_with (refine wpList_store_rowTo rfl 57 _ _ rfl rfl gx (ints .i16 xv) rfl rfl 57 (ints .i16 (List.replicate 64 0)) hgb (by rw [ints_size, hx64]; kernel_rfl) (by rw [ints_size, ints_size, hx64]; rfl) (ints_one _ _) ?_)
      refine onlyN_intro ?_
      go_upto_region 11 with fail
      have hG1 := hG.setRow hMB hlo (ints .i16 xv)
      have hbx := hgb.row (ints .i16 xv)
      have hvg : ∀ g, vo.ownBlock = some g → ¬ g = gx := fun g hg => by have := (hMB.so.row.lt g hg).2; omega
      refine wp_world (fun W => Pl.MB N M bw c r vw bs bo cols rows vo O w W ∧ Blk W gx (ints .i16 xv) 57) ⟨hG1, hbx⟩ ?_
      clear hG1 hbx hG hgb hI1 hGm hMB hg0 hg1 hg2 hg3 hlo hat
      rintro W9 ⟨hMB, hbx⟩
      have hset := fun W h => sheet_set_i M bo cols rows vo O k xv hx64 (by rw [HZ.out]; exact hlt) (by rw [HZ.out]; omega) W h
      go_upto_region 13 with fail
      refine wp_region_one 8 (fun W => Pl.MB N M bw c r vw bs bo cols rows vo O w W ∧ Blk W gx (ints .i16 xv) 57) (fun W => Pl.MB N M bw c r vw bs bo cols rows vo (O.set k xv) w W ∧ Blk W gx (ints .i16 xv) 57) (by kernel_rfl) (by kernel_rfl) (by decide) ⟨hMB.below (Below.refl _ _).drew, hbx.drew⟩ ?_
      clear hMB hbx
      (refine one_pure (v := ?_) (by decide) (by rfl) ?_ ?_; rotate_left; (intro wS hS; go_simp; try with_reducible rfl); simp only [Act.put, List.setIfInBounds_toArray, List.set_cons_zero, List.set_cons_succ])
      (refine one_pure (v := ?_) (by decide) (by rfl) ?_ ?_; rotate_left; (intro wS hS; go_simp; try with_reducible rfl); simp only [Act.put, List.setIfInBounds_toArray, List.set_cons_zero, List.set_cons_succ])
      (refine one_pure (v := ?_) (by decide) (by rfl) ?_ ?_; rotate_left; (intro wS hS; go_simp; try with_reducible rfl); simp only [Act.put, List.setIfInBounds_toArray, List.set_cons_zero, List.set_cons_succ])
      refine one_pure (v := .int .i64 ((k : Int) / (cols : Int))) (by decide) (by rfl) (fun w1 hS => by go_simp) ?_
      simp only [Act.put, List.setIfInBounds_toArray, List.set_cons_zero, List.set_cons_succ]
      (refine one_pure (v := ?_) (by decide) (by rfl) ?_ ?_; rotate_left; (intro wS hS; go_simp; try with_reducible rfl); simp only [Act.put, List.setIfInBounds_toArray, List.set_cons_zero, List.set_cons_succ])
      (refine one_pure (v := ?_) (by decide) (by rfl) ?_ ?_; rotate_left; (intro wS hS; go_simp; try with_reducible rfl); simp only [Act.put, List.setIfInBounds_toArray, List.set_cons_zero, List.set_cons_succ])
      refine one_pure (v := .int .i64 ((k : Int) % (cols : Int))) (by decide) (by rfl) (fun w1 hS => by go_simp; exact Int.tmod_eq_emod_of_nonneg (by omega)) ?_
      simp only [Act.put, List.setIfInBounds_toArray, List.set_cons_zero, List.set_cons_succ]
      refine one_pure (by decide) (by rfl) (fun w1 hS => run_exec_load_row 57 _ rfl gx rfl 57 _ _ (hS.elim (fun h => h.2) (fun h => h.2)) Try.underlying57 rfl (by rw [ints_size, hx64]; kernel_rfl)) ?_
      simp only [Act.put, List.setIfInBounds_toArray, List.set_cons_zero, List.set_cons_succ]
      refine one_call (v := .bool true) rfl (by rfl) (by intro wS hS; go_simp; first | done | exact ⟨rfl, rfl⟩) (fun w1 hS => (hset w1 hS.1.so).mono fun e w2 hh => ?_) ?_
      · obtain ⟨he, hs2, hsz, hos, htp, hout, hk⟩ := hh
        have hvo : ∀ g, vo.ownBlock = some g → M ≤ g := fun g hg => (hS.1.so.row.lt g hg).1
        exact ⟨he, ⟨(hk _ hS.1.bO.lt (fun e => by have := hvo _ e; omega)).trans hS.1.bO,
          ⟨(hk _ hS.1.sp.box.lt (fun e => by have := hvo _ e; omega)).trans hS.1.sp.box, hS.1.sp.row.same (fun g hg => hk g (hS.1.sp.row.lt g hg).2 (fun e => by have := hvo _ e; have := huM g hg; omega)), hS.1.sp.h64, hS.1.sp.len⟩, hs2,
          hS.1.hB.trans ⟨hos, htp, hout, hsz, fun j hj => hk j (by have := hS.1.bO.lt; omega) (fun e => by have := hvo _ e; omega)⟩⟩,
          (hk _ hS.2.lt (fun e => hvg _ e rfl)).trans hS.2⟩
      simp only [Act.put, List.setIfInBounds_toArray, List.set_cons_zero, List.set_cons_succ]
      refine one_nil ⟨by simp, ?_⟩
      rintro W11 ⟨hMB, -⟩
      clear hq1 hset
      go_wp2_with fail
      refine ⟨⟨k + 1, O.set k xv, by omega, by go_num, by rw [List.length_set]; exact hOl, fun j hj => ?_, hMB⟩, by simp [intOf]; omega⟩
      by_cases hjk : j = k
      · subst hjk
        rw [Pl.blk_set_self (by omega)]; exact HXV.out.symm
      · rw [Pl.blk_set_ne hjk]
        exact hO j (by omega)
    · have tk : decide (k < z) = false := by simpa using hlt
      obtain rfl : k = z := by omega
      have hOe : O = (List.range k).map fun k => Pl.blk bs ((src k).1 * c + (src k).2) := by
        apply List.ext_getElem
        · simp [hOl]
        · intro i h1 h2
          rw [Pl.blk_eq h1, hO i (by omega)]
          simp
      subst hOe
      have hcz : cols * rows ≤ 16384 := by rw [HZ.out]; omega
      have hpl := sheet_plane M bo cols rows vo _ hcz wr hMB.so
      rw [hOl] at hpl
      have hsz := hMB.bO.lt
      go_wp2_with (first
        | (go_at_call 75; refine hpl.mono ?_; rintro e w5 ⟨v, rfl, hR, hb5⟩; obtain ⟨bv, cv, rfl⟩ := hR.len; have b15 := hMB.bO.below hb5 hMB.bO.lt)
        | (refine wpList_store_row rfl 61 _ _ rfl (N+1) _ rfl rfl 61 _ b15 (by kernel_rfl) rfl (by simp [Value.oneCell']) ?_))
      refine bodyPost_ret (results_row_tmp rfl _ _ (N + 1) 61 _ _ rfl (b15.row _) Try.underlying61 rfl (by kernel_rfl)) rfl ?_
      exact ⟨Below.setRow (hMB.hB.trans (hb5.mono (by omega))) (by omega) _, _, rfl, Row.down (Row.same hR fun k hk => setRow_other _ _ _ _ (Row.typed hR b15 (by decide) k hk)) (by omega)⟩
end Go.Proofs.Ytgmhhocpdfdplaa
