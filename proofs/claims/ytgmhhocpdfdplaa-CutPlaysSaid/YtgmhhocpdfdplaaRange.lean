/- A range over a function, over any program: what a round keeps; drawn regions of one value each within a round. No Go text. -/
import Derived.RangeFuncNested
import Derived.RangeFuncBound
import Derived.RangeFuncCalls
import Derived.RangeFuncLeaves
import Derived.Shelf.Abstract
import Derived.Shelf.RegionOpen
import Derived.WalkKit
import Derived.OwnWalkIn
import Derived.TacticsInMore
import Derived.LoopNIn
import Derived.LoopIn
import Derived.OrdersIn
import Derived.Test.YtgmhhocpdfdplaaGB
import Derived.Test.YtgmhhocpdfdplaaGA
namespace Go.Proofs.Ytgmhhocpdfdplaa
open Go.RowKit Go.Shelf

/-- What is cells and lies at M or beyond lies as it lay. -/
structure KeepC (M : Nat) (A B : World) : Prop where
  size : A.heap.size ≤ B.heap.size
  block : ∀ k cs t f, M ≤ k → A.heap[k]? = some (.cells cs t f) → B.heap[k]? = some (.cells cs t f)
theorem KeepC.refl (M : Nat) (A : World) : KeepC M A A := ⟨Nat.le_refl _, fun _ _ _ _ _ h => h⟩
theorem KeepC.trans {M : Nat} {A B C : World} (h : KeepC M A B) (k : KeepC M B C) : KeepC M A C := ⟨Nat.le_trans h.size k.size, fun i cs t f hi hA => k.block i cs t f hi (h.block i cs t f hi hA)⟩
theorem KeepC.put {M : Nat} (W : World) (l : Nat) (o o' : Obj) (h : W.heap[l]? = some o) (hc : o.isCells = false) : KeepC M W (W.putObj l o') :=
  ⟨by simp, fun k cs t f _ hk => (World.putObj_heap_other (fun e => by subst e; rw [h] at hk; cases hk; cases hc)).trans hk⟩
theorem KeepC.blk {M : Nat} {A B : World} (h : KeepC M A B) {g : Nat} {cs : Array Value} {t : TypeId} (hb : Blk A g cs t) (hg : M ≤ g) : Blk B g cs t := h.block g cs t _ hg hb
theorem KeepC.below {M : Nat} {A B : World} (h : Below A.heap.size A B) : KeepC M A B := ⟨h.size, fun k _ _ _ _ hk => (h.block k (Array.getElem?_eq_some_iff.1 hk).1).trans hk⟩
theorem KeepC.set {M : Nat} (A : World) (a : Addr) (v : Value) (ha : a.block < M) : KeepC M A (A.setCell a v) := ⟨by simp, fun k cs t f hk hA => (heap_setCell_other A a k v (by omega)).trans hA⟩
theorem Row.keepC {M : Nat} {A B : World} {lo : Nat} {e : TypeId} {size : Nat} {v : Value} {n : Nat} {xs : List Value} (h : Row A lo e size v n xs) (hk : KeepC M A B) (hM : M ≤ lo) : Row B lo e size v n xs := by
  refine ⟨h.1, ?_⟩
  rcases h.2 with h | ⟨g, cap, cur, h1, h2, h3, h4⟩
  · exact .inl h
  · exact .inr ⟨g, cap, cur, h1, h2, hk.blk h3 (by omega), h4⟩

theorem KeepsFrom.of_below {B : Nat} {W W' : World} (h : Below W.heap.size W W') : KeepsFrom B W W' := ⟨h.size, fun k _ _ hk _ => (h.block k (Array.getElem?_eq_some_iff.1 hk).1).trans hk⟩
/-- From W to W' whatever is cells lies as it lay (blocks that are no cells may have turned). -/
structure CellsOf (W W' : World) : Prop where
  size : W.heap.size ≤ W'.heap.size
  block : ∀ (k : Nat) cs t f, W.heap[k]? = some (.cells cs t f) → W'.heap[k]? = some (.cells cs t f)
theorem CellsOf.of {W W' : World} {row : Option Nat} (hg : W.grownBy W' row) (hr : ∀ r, row = some r → ∃ o : Obj, W.heap[r]? = some o ∧ o.isCells = false) : CellsOf W W' :=
  ⟨hg.size, fun k cs t f hk => (hg.block k (Array.getElem?_eq_some_iff.1 hk).1 (fun e => by obtain ⟨o, ho, hc⟩ := hr k e.symm; rw [hk] at ho; cases ho; cases hc)).trans hk⟩
theorem CellsOf.keepC {W W' : World} (h : CellsOf W W') (M : Nat) : KeepC M W W' := ⟨h.size, fun k cs t f _ hk => h.block k cs t f hk⟩
theorem CellsOf.blk {W W' : World} (h : CellsOf W W') {g : Nat} {cs : Array Value} {t : TypeId} (hb : Blk W g cs t) : Blk W' g cs t := h.block g cs t _ hb
/-- What abides by the cells alone. -/
theorem own_cells {β : Type} {I : β → World → Prop} (h : ∀ s W W', I s W → CellsOf W W' → I s W') : Own I := fun s W W' _ hs hg hr => h s W W' hs (CellsOf.of hg hr)
theorem own_blk {β : Type} (f : β → Array Value) (g : Nat) (t : TypeId) : Own (fun s W => Blk W g (f s) t) := own_cells fun _ _ _ h hc => hc.blk h
theorem ownFrom_size {β : Type} (B N : Nat) : OwnFrom B (fun (_ : β) (W : World) => N ≤ W.heap.size) := fun _ _ _ _ hs hg _ => Nat.le_trans hs hg.size
theorem keepC_t {M : Nat} {A B C : World} (h : KeepC M A B) (k : KeepC M B C) : KeepC M A C := h.trans k
theorem keepC_b {M : Nat} {w : World} (W : World) (l : Nat) (o o' : Obj) (_ : w.heap.size ≤ l) (h : W.heap[l]? = some o) (hc : o.isCells = false) (_ : o.isWalk = false) : KeepC M W (W.putObj l o') := KeepC.put W l o o' h hc

theorem rowsIn_round {P : Program} {row : String} {args : Array Value} {w : World} {R : Value → World → Prop} {l n : Nat} (h : Rows P row args w R) : RowsIn (Fence.wide.inRound l) n P row args w R :=
  fun c cs _ => let ⟨v, w', r, s⟩ := h c cs; ⟨v, w', r, stepsIn_wide.2 s⟩
/-- A walk of all orders outside rounds is one within a round, if no operation defers. -/
theorem wpAnyIn_of_wpAny {P : Program} {md : Region.Mode} {ops : Array Oper} {Q : Exit → Act → World → Prop} {l n : Nat} (hq : ¬ LetsOut Q) (hd : ops.all (fun o => match o.op with | .defer _ => false | _ => true) = true) :
    ∀ (fuel : Nat) (listed : Array Bool) (a : Act) (w : World), wpAny P md ops Q fuel listed a w → wpAnyIn (Fence.wide.inRound l) n P md ops Q fuel listed a w := by
  intro fuel
  induction fuel with
  | zero => intro listed a w h; exact h
  | succ fuel ih =>
    intro listed a w h
    refine ⟨h.1, fun i hi => ?_⟩
    have hw := h.2 i hi
    unfold wpOp at hw
    unfold wpOpIn
    split
    · rename_i ho
      rw [ho] at hw
      exact ih _ _ _ hw
    · rename_i o ho
      rw [ho] at hw
      simp only at hw
      split
      · rename_i hwt
        rw [if_pos hwt] at hw
        rcases hw with hw | ⟨_, hl⟩
        · have hmem : o ∈ ops := Array.mem_of_getElem? ho
          have hnd : ∀ c, o.op ≠ .defer c := by
            intro c hc
            rw [Array.all_eq_true_iff_forall_mem] at hd
            have := hd o hmem
            rw [hc] at this
            cases this
          unfold Oper.wpIn
          refine ⟨fun _ _ => trivial, ?_⟩
          rw [Oper.semAt_eq _ _ _ hnd]
          unfold Oper.wp at hw
          generalize (execOp a.eval o).run P w = r at *
          cases r with
          | ok x w' =>
            cases x <;> simp only [Oper.upon, Oper.uponIn] at hw ⊢ <;>
              first
                | exact ih _ _ _ hw
                | exact ⟨fun h => by simp [Fence.wide] at h, CallsIn.inRound l (callsIn_wide.2 (Calls.mono hw (fun e w'' he => by cases e <;> first | exact ih _ _ _ he | exact he)))⟩
                | exact ⟨fun h => by simp [Fence.wide] at h, RowsIn.mono (rowsIn_round hw) (fun v w'' he => ih _ _ _ he)⟩
                | exact hw.elim
                | skip
          | halt x w' => cases x <;> simp only [Oper.upon, Oper.uponIn] at hw ⊢ <;> exact hw
        · exact absurd hl hq
      · rename_i hwt
        rw [if_neg hwt] at hw
        exact ⟨fun _ _ => trivial, ih _ _ _ hw⟩
/-- 'wp_region_det' within a round. -/
theorem wpIn_region_det {P : Program} {id n r : Nat} {l : List Oper} {Q : Exit → Act → World → Prop} {a : Act} {w : World} (S : World → Prop) (hm : P.follows .mixedOrders = true)
    (hok : detOk l = true) (hd : l.toArray.all (fun o => match o.op with | .defer _ => false | _ => true) = true) (hq : ¬ LetsOut Q) (hS : S w.drew)
    (h : detList P l.toArray S (fun a => ∀ w, S w → Q .normal a w) l a) : (Code.region id l.toArray true).wpIn (Fence.wide.inRound r) n P Q a w := by
  simp only [detOk, Bool.and_eq_true] at hok
  have hdt := detAny_list (md := .any) (P := P) (S := S) hok.1 l 0 (Array.replicate l.length false) a (fun j => by simp) hok.2 h
  refine wpIn_region_any hm (wpAnyIn_of_wpAny hq hd _ _ _ _ ?_)
  have := detAny_sound (Q := Q) _ _ _ hdt w.drew hS
  simpa using this
section
variable {P : Program} {ops : Array Oper} {rest : List Oper} {o : Oper} {a : Act} {w : World} {Q : Exit → Act → World → Prop} {n : Nat}
/-- An operation outside rounds is one within a round (r), if it defers nothing. -/
theorem opIn_of_op (r : Option Nat) {K : Act → World → Prop} (hnd : ∀ c, o.op ≠ .defer c) (hw : o.wp P a w K (fun _ _ _ => False)) : o.wpIn { Fence.wide with round := r } n P a w K Q := by
  unfold Oper.wpIn
  refine ⟨fun _ _ => trivial, ?_⟩
  rw [Oper.semAt_eq _ _ _ hnd]
  unfold Oper.wp at hw
  generalize (execOp a.eval o).run P w = r at *
  cases r with
  | ok x w' =>
    cases x <;> simp only [Oper.upon, Oper.uponIn] at hw ⊢ <;>
      first
        | exact hw
        | exact ⟨fun h => by simp [Fence.wide] at h, CallsIn.mono (callsIn_wide.2 hw) (fun e w'' he => by cases e <;> first | exact he | exact he.elim | exact (he.elim fun _ h => h.elim fun _ h => h.elim))⟩
        | exact ⟨fun h => by simp [Fence.wide] at h, rowsIn_round (l := 0) hw⟩
        | exact hw.elim
        | skip
  | halt x w' => cases x <;> simp only [Oper.upon] at hw ⊢ <;> first | exact hw | exact hw.elim | exact (hw.elim fun _ h => h.elim fun _ h => h.elim)
theorem wpListIn_of_op {F : Fence} (hF : ∃ r, F = { Fence.wide with round := r }) (hg : o.guard = none) (hnd : ∀ c, o.op ≠ .defer c) (h : ∀ K : Act → World → Prop, (∀ a w, wpListIn F n P ops Q rest a w → K a w) → o.wp P a w K (fun _ _ _ => False)) :
    wpListIn F n P ops Q (o :: rest) a w := by
  obtain ⟨r, rfl⟩ := hF
  exact wpListIn_plain hg fun K hK => opIn_of_op r hnd (h K hK)
theorem wpListIn_load_row {F : Fence} (hF : ∃ r, F = { Fence.wide with round := r }) (hgd : o.guard = none) (ty : TypeId) (x : Operand) (ho : o.op = .load ty x)
    (g : Nat) (hx : a.eval x = .pointer (some ⟨g, 0, none⟩)) (t : TypeId) (cs : Array Value) (fr : Nat × Nat) (d : TypeDesc) (hg : w.heap[g]? = some (.cells cs t fr))
    (hu : P.underlying ty = some d) (hd : (match d with | .struct _ | .array _ _ => true | _ => false) = true) (hi : (P.info? ty).map (·.size) = some cs.size)
    (h : wpListIn F n P ops Q rest (a.put o.dst (.agg cs)) w) : wpListIn F n P ops Q (o :: rest) a w :=
  wpListIn_of_op hF hgd (by rw [ho]; intro c h; cases h) fun _ hK => wp_load_row ty x ho g hx t cs fr d hg hu hd hi (hK _ _ h)
theorem wpListIn_store_row {F : Fence} (hF : ∃ r, F = { Fence.wide with round := r }) (hgd : o.guard = none) (ty : TypeId) (x y : Operand) (ho : o.op = .store ty x y)
    (g : Nat) (cells : Array Value) (hx : a.eval x = .pointer (some ⟨g, 0, none⟩)) (hy : a.eval y = .agg cells)
    (t : TypeId) (old : Array Value) (hg : w.heap[g]? = some (.cells old t (0, 0))) (hi : (P.info? ty).map (·.size) = some cells.size)
    (hold : old.size = cells.size) (h1 : cells.all (·.oneCell') = true)
    (h : wpListIn F n P ops Q rest (a.put o.dst undef) (w.setRow g cells)) : wpListIn F n P ops Q (o :: rest) a w :=
  wpListIn_of_op hF hgd (by rw [ho]; intro c h; cases h) fun _ hK => wp_store_row ty x y ho g cells hx hy t old hg hi hold h1 (hK _ _ h)
end
section
variable {F : Fence} {n : Nat} {P : Program} {fn : Func} {R : Ending → World → Prop} {tmps : Array Value} {w : World} {v : Value}
theorem leave_plain (h : (results fn tmps).run P w = .ok v w) (hR : R (.returned v) w) : bodyPostM F n P fn R .ret { tmps := tmps, defers := [] } w := ⟨v, h, hR⟩
theorem leave_mark {D : Nat} (hK : w.heap[D]? = some (.deferred (some []))) (h : (results fn tmps).run P (w.putObj D (.deferred none)) = .ok v (w.putObj D (.deferred none))) (hR : R (.returned v) (w.putObj D (.deferred none))) :
    bodyPostM F n P fn R .ret { tmps := tmps, defers := [{ target := .collected D, args := #[] }] } w :=
  ⟨by simp, .inl ⟨D, _, rfl, run_takeDeferred hK, ⟨v, h, hR⟩⟩⟩
theorem Blk.putObj {g D : Nat} {cs : Array Value} {t : TypeId} {o o' : Obj} (h : Blk w g cs t) (hK : w.heap[D]? = some o) (hc : o.isCells = false) : Blk (w.putObj D o') g cs t :=
  (World.putObj_heap_other (fun e => by subst e; rw [h] at hK; cases hK; cases hc)).trans h
theorem results_box {p : Tmp} {ty : TypeId} (h : fn.results = #[.cell p ty]) (tmps : Array Value) (w : World) (g : Nat) (t : TypeId) (v : Value) (hp : tmps.getD p undef = .pointer (some ⟨g, 0, none⟩)) (hg : Blk w g #[v] t)
    (hl : ∀ w : World, w.cell? ⟨g, 0, none⟩ = some v → (loadVar ty ⟨g, 0, none⟩).run P w = .ok v w) : (results fn tmps).run P w = .ok v w := by
  have hp' : tmps[p]?.getD undef = .pointer (some ⟨g, 0, none⟩) := by simpa using hp
  simp [results, h, hp', asAddr, hl w (hg.cell 0)]
end
/-- A range over a function whose loop variable lies in a box that each round makes anew: the slots that the round sets, by the element and the box. -/
theorem wp_rangeFunc_box {α : Type} {P : Program} {n : Nat} {g : Operand} {ps : Array Tmp} {assign body : Code} {Q : Exit → Act → World → Prop} {a : Act} {w : World} (sl : α → Nat → List (Nat × Value)) (c : Nat) (cs : α → Array Value) (t : TypeId)
    (h1 : 1 ≤ n) {gf : Nat} {lb : Array Value} (hg : a.eval g = .func (.func gf) #[] lb) (eg : ∀ args w, (callFunc gf args).run P w = .ok (.enter gf args) w)
    {encs : α → Array Value} {S Sp : List α → Prop} {N : Nat} (hseq : SeqStopsK Fence.wide (n - 1) P gf lb encs (KeepC w.heap.size) S Sp N w) (hps : ∀ x, (encs x).size = ps.size)
    (I : List α → World → Prop) (Ix : Code → List α → World → Prop) (hI : OwnFrom w.heap.size I) (hIx : ∀ c, OwnFrom w.heap.size (Ix c)) (h0 : I [] w)
    (hassign : ∀ (l : Nat) (pre : List α) (x : α) (W : World) (K : Act → World → Prop), I pre W → (∀ a' W', Below W.heap.size W W' → I pre W' → (∃ Bx, c < Bx ∧ Blk W' Bx (cs x) t ∧ a' = { tmps := (sl x Bx).foldl (fun t (p : Nat × Value) => t.setIfInBounds p.1 p.2) a.tmps, defers := [] }) → K a' W') →
      assign.wpIn (Fence.wide.inRound l) (n - 1 - 1) P (Exit.then K (fun _ _ _ => False)) { tmps := (ps.zip (encs x)).foldl (fun t (p, v) => t.setIfInBounds p v) a.tmps, defers := [] } W)
    (hbody : ∀ (l : Nat) (pre : List α) (x : α) (Bx : Nat) (W : World), w.heap.size ≤ l → I pre W → c < Bx → Blk W Bx (cs x) t → pre.length < N → body.wpIn (Fence.wide.inRound l) (n - 1 - 1) P (ownPostG w.heap.size (KeepC w.heap.size) I Ix (pre ++ [x]) W) { tmps := (sl x Bx).foldl (fun t (p : Nat × Value) => t.setIfInBounds p.1 p.2) a.tmps, defers := [] } W)
    (hdone : ∀ (D : Nat) (xs : List α) (W : World), w.heap.size ≤ D → S xs → I xs W → W.heap[D]? = some (.deferred (some [])) → Q .normal { a with defers := { target := .collected D, args := #[] } :: a.defers } W)
    (hstop : ∀ (D : Nat) (c : Code) (pre : List α) (W : World), w.heap.size ≤ D → Sp pre → Ix c pre W → W.heap[D]? = some (.deferred (some [])) → c.wp P Q { a with defers := { target := .collected D, args := #[] } :: a.defers } W) :
    (Code.rangeFunc g ps assign body).wp P Q a w :=
  (wpIn_wide (n := n)).1 (wpIn_rangeFunc_ownH (F := Fence.wide) rfl h1 hg trivial eg hseq keepC_t keepC_b (Below.refl _ _) hps I Ix hI hIx h0
    (fun x a' W => ∃ Bx, c < Bx ∧ Blk W Bx (cs x) t ∧ a' = { tmps := (sl x Bx).foldl (fun t (p : Nat × Value) => t.setIfInBounds p.1 p.2) a.tmps, defers := [] })
    (fun _ _ _ _ _ _ hs hg hr => by obtain ⟨Bx, h1, h2, h3⟩ := hs; exact ⟨Bx, h1, (CellsOf.of hg (fun r e => (hr r e).2)).blk h2, h3⟩)
    (fun l pre x W K hi hK => hassign l pre x W K hi (fun a' W' hb hI' hx => hK a' W' (KeepsFrom.of_below hb) (KeepC.below hb) hI' hx))
    (fun l pre x a' W hl _ hi hx hlt => by obtain ⟨Bx, h1, h2, rfl⟩ := hx; exact hbody l pre x Bx W hl hi h1 h2 hlt)
    hdone (fun D c pre W h1 h2 h3 h4 => wpIn_wide.2 (hstop D c pre W h1 h2 h3 h4)))
end Go.Proofs.Ytgmhhocpdfdplaa
