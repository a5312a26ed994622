/- A range over a function whose contract says of each element what holds of it in the world in which it is handed out. Over any program. -/
import Derived.Test.YtgmhhocpdfdplaaGJ
namespace Go.Proofs.Ytgmhhocpdfdplaa
open Go.RowKit Go.Shelf
/-- What a round keeps: the blocks below L, and what is cells from M on. -/
structure KB2 (L M : Nat) (A B : World) : Prop where
  c : KeepC M A B
  b : Below L A B
theorem KB2.trans {L M : Nat} {A B C : World} (h : KB2 L M A B) (k : KB2 L M B C) : KB2 L M A C := ⟨h.c.trans k.c, h.b.trans k.b⟩
/-- What an iterator promises: yield is called at elements of which V holds; the caller's invariant minds changed cells alone, and what lay ahead of the call. -/
def Hands {α : Type} (n : Nat) (P : Program) (g : Nat) (lb : Array Value) (encs : α → Array Value) (V : List α → α → World → Prop) (Kp : World → World → Prop) (S Sp : List α → Prop) (w : World) : Prop :=
  ∀ (l : Nat) (J Jx : List α → World → Prop) (W : World), Below w.heap.size w W → OwnFrom W.heap.size J → OwnFrom W.heap.size Jx →
    (∀ pre x U, J pre U → V pre x U → YieldAt Fence.wide (n - 1) P l (encs x) U fun e U' => (e = .returned (.bool true) ∧ J (pre ++ [x]) U' ∧ Kp U U' ∧ KeepsFrom W.heap.size U U') ∨ (e = .returned (.bool false) ∧ Jx (pre ++ [x]) U' ∧ KeepsFrom W.heap.size U U')) →
    J [] W → CallsIn Fence.wide n P g (#[.func (.yield l) #[] #[]] ++ lb) W fun e U => (∃ v, e = .returned v) ∧ ((∃ xs, S xs ∧ J xs U) ∨ ∃ pre, Sp pre ∧ Jx pre U)
/-- A loop's record. -/
def recL (fn : FuncId) (tmps : Array Value) (ps : Array Tmp) (assign body : Code) (D : Nat) (st : LoopState) (pe : Option Code) : Loop := { state := st, pending := pe, fn := fn, tmps := tmps, params := ps, assign := assign, body := body, defers := D }
/-- The two blocks of a loop: the deferred calls at D, the record behind it. -/
structure TwoB (D : Nat) (R : LoopState → Option Code → Loop) (st : LoopState) (pe : Option Code) (W : World) : Prop where
  dfr : W.heap[D]? = some (.deferred (some []))
  rcd : W.heap[D + 1]? = some (.loop (R st pe))
namespace TwoB
variable {D : Nat} {R : LoopState → Option Code → Loop} {st : LoopState} {pe : Option Code} {W W' : World}
theorem lt (h : TwoB D R st pe W) : D + 1 < W.heap.size := (Array.getElem?_eq_some_iff.1 h.rcd).1
theorem grow {row : Option Nat} (h : TwoB D R st pe W) (hg : W.grownBy W' row) (hr : ∀ r, row = some r → D + 2 ≤ r) : TwoB D R st pe W' := by
  have hl := h.lt
  exact ⟨(hg.block D (by omega) (fun e => by have := hr D e.symm; omega)).trans h.dfr, (hg.block (D + 1) hl (fun e => by have := hr (D + 1) e.symm; omega)).trans h.rcd⟩
theorem keep (h : TwoB D R st pe W) (hk : KeepsFrom D W W') : TwoB D R st pe W' := ⟨hk.same _ _ (Nat.le_refl _) h.dfr rfl, hk.same _ _ (by omega) h.rcd rfl⟩
theorem put (h : TwoB D R st pe W) (st2 : LoopState) (pe2 : Option Code) : TwoB D R st2 pe2 (W.putObj (D + 1) (.loop (R st2 pe2))) :=
  ⟨(World.putObj_heap_other (by omega)).trans h.dfr, World.putObj_heap_same h.lt⟩
theorem own {β : Type} (B : Nat) (hB : D + 2 ≤ B) : OwnFrom B (fun (_ : β) W => TwoB D R st pe W) := fun _ _ _ _ h hg hr => h.grow hg fun r e => Nat.le_trans hB (hr r e).1
end TwoB
theorem wp_rangeFunc_w {α : Type} {P : Program} {n : Nat} {g : Operand} {ps : Array Tmp} {assign body : Code} {Q : Exit → Act → World → Prop} {a : Act} {w : World} {Kp : World → World → Prop}
    (hKt : ∀ {A B C : World}, Kp A B → Kp B C → Kp A C) (hKb : ∀ (W : World) (l : Nat) (o o' : Obj), w.heap.size ≤ l → W.heap[l]? = some o → o.isCells = false → Kp W (W.putObj l o')) (hKl : ∀ (U U' : World), w.heap.size ≤ U.heap.size → Below U.heap.size U U' → Kp U U')
    (h1 : 1 ≤ n) {gf : Nat} {lb : Array Value} (hg : a.eval g = .func (.func gf) #[] lb) (eg : ∀ args w, (callFunc gf args).run P w = .ok (.enter gf args) w)
    {encs : α → Array Value} {V : List α → α → World → Prop} {S Sp : List α → Prop} (hseq : Hands (n - 1) P gf lb encs V Kp S Sp w) (hps : ∀ x, (encs x).size = ps.size)
    (I : List α → World → Prop) (Ix : Code → List α → World → Prop) (hI : OwnFrom w.heap.size I) (hIx : ∀ c, OwnFrom w.heap.size (Ix c)) (h0 : I [] w)
    (X : Array Value → List α → α → Act → World → Prop) (hX : ∀ t pre x a', OwnFrom w.heap.size (fun (_ : Unit) W => X t pre x a' W))
    (hassign : ∀ (l : Nat) (pre : List α) (x : α) (W : World) (K : Act → World → Prop), I pre W → V pre x W → (∀ a' W', Below W.heap.size W W' → I pre W' → X a.tmps pre x a' W' → K a' W') →
      assign.wpIn (Fence.wide.inRound l) (n - 1 - 1) P (Exit.then K (fun _ _ _ => False)) { tmps := (ps.zip (encs x)).foldl (fun t (p, v) => t.setIfInBounds p v) a.tmps, defers := [] } W)
    (hbody : ∀ (l : Nat) (pre : List α) (x : α) (a' : Act) (W : World), w.heap.size ≤ l → w.heap.size ≤ W.heap.size → I pre W → X a.tmps pre x a' W → body.wpIn (Fence.wide.inRound l) (n - 1 - 1) P (ownPostG w.heap.size Kp I Ix (pre ++ [x]) W) a' W)
    (hdone : ∀ (D : Nat) (xs : List α) (W : World), w.heap.size ≤ D → S xs → I xs W → W.heap[D]? = some (.deferred (some [])) → Q .normal { a with defers := { target := .collected D, args := #[] } :: a.defers } W)
    (hstop : ∀ (D : Nat) (c : Code) (pre : List α) (W : World), w.heap.size ≤ D → Sp pre → Ix c pre W → W.heap[D]? = some (.deferred (some [])) → c.wp P Q { a with defers := { target := .collected D, args := #[] } :: a.defers } W) :
    (Code.rangeFunc g ps assign body).wp P Q a w := by
  refine (wpIn_wide (n := n)).1 (wpIn_rangeFunc fun fn hfn => ?_)
  obtain ⟨R, hR⟩ : ∃ R, R = recL fn a.tmps ps assign body w.heap.size := ⟨_, rfl⟩
  obtain ⟨D, hD⟩ : ∃ D, D = w.heap.size := ⟨_, rfl⟩
  have two : TwoB D R .ready none ((w.alloc (.deferred (some []))).alloc (.loop (R .ready none))) := by
    subst hD
    refine ⟨(Below.heap_alloc _ _ _ (by simp)).trans (World.alloc_heap_new w _), ?_⟩
    have := World.alloc_heap_new (w.alloc (.deferred (some []))) (.loop (R .ready none))
    rwa [World.size_alloc] at this
  have i0 : I [] ((w.alloc (.deferred (some []))).alloc (.loop (R .ready none))) := hI.alloc _ (hI.alloc _ h0)
  have hbw : Below w.heap.size w ((w.alloc (.deferred (some []))).alloc (.loop (R .ready none))) := ((Below.refl _ w).alloc (Nat.le_refl _) _).alloc (by simp) _
  have henter := run_enterLoop_outer (P := P) (w := w) fn a.tmps ps assign body
  have hre : (Loop.mk .ready none fn a.tmps ps assign body w.heap.size) = R .ready none := by rw [hR]; rfl
  have hz : ((w.alloc (.deferred (some []))).alloc (.loop (R .ready none))).heap.size = D + 2 := by simp [hD]
  generalize hW1 : (w.alloc (.deferred (some []))).alloc (.loop (R .ready none)) = W1 at *
  refine ⟨D + 1, [{ target := .collected D, args := #[] }], W1, { target := .fn (.func gf) lb, args := #[.func (.yield (D + 1)) #[] #[]] }, W1, gf, #[.func (.yield (D + 1)) #[] #[]] ++ lb, W1, ?_, ?_, fun _ _ => trivial, ?_, fun _ => h1, ?_⟩
  · rw [hD, ← hW1, hR]; exact henter
  · simp only [resolve, hg]
    simp [go_sem]
  · simp [invoke, go_sem, eg]
  have hnum : D ≤ D + 1 := by omega
  refine (hseq (D + 1) (fun pre W => I pre W ∧ TwoB D R .ready none W) (fun pre W => ∃ c, Ix c pre W ∧ TwoB D R .done (some c) W) W1 hbw ?_ ?_ ?_ ⟨i0, two⟩).mono ?_
  · rw [hz]
    exact fun s A B row h hgr hr => ⟨hI s A B row h.1 hgr (fun r e => ⟨by have := (hr r e).1; omega, (hr r e).2⟩), h.2.grow hgr (fun r e => (hr r e).1)⟩
  · rw [hz]
    rintro s A B row ⟨c, h⟩ hgr hr
    exact ⟨c, hIx c s A B row h.1 hgr (fun r e => ⟨by have := (hr r e).1; omega, (hr r e).2⟩), h.2.grow hgr (fun r e => (hr r e).1)⟩
  · -- a round
    rintro pre x U ⟨hi, ht⟩ hv
    have hy := run_yield (P := P) (args := encs x) ht.rcd (by rw [hR]; exact hps x)
    rw [hR] at hy
    refine ⟨fn, _, assign, body, hy, roundIn_of_wpIn hfn (hassign _ pre x U _ hi hv ?_)⟩
    intro a' U1 hb1 hi1 hx1
    have ht1 := ht.keep (KeepsFrom.of_below hb1)
    have hcalm : ∀ {U0 : World} {st : LoopState} {pe : Option Code} (o : Obj), TwoB D R st pe U0 → U0.grownBy (U0.putObj (D + 1) o) (some (D + 1)) ∧ ∀ r, some (D + 1) = some r → w.heap.size ≤ r ∧ ∃ o' : Obj, U0.heap[r]? = some o' ∧ o'.isCells = false := fun o h =>
      ⟨grownBy_putObj' _ _ _, fun r e => by cases e; exact ⟨by omega, _, h.rcd, rfl⟩⟩
    have hbusy : (Instr.beginRound (D + 1)).run P U1 = .ok () (U1.putObj (D + 1) (.loop (R .busy none))) := by
      have := run_beginRound (P := P) ht1.rcd (by rw [hR]; rfl)
      rw [hR] at this ⊢
      exact this
    refine ⟨_, hbusy, ?_⟩
    have ht2 := ht1.put .busy none
    obtain ⟨hg1, hr1⟩ := hcalm (.loop (R .busy none)) ht1
    have hsz : w.heap.size ≤ U.heap.size := by have := ht.lt; omega
    have hsz1 : w.heap.size ≤ (U1.putObj (D + 1) (.loop (R .busy none))).heap.size := by have := hb1.size; simp; omega
    refine wpIn_mono (hbody _ pre x a' _ (by omega) hsz1 (hI _ _ _ _ hi1 hg1 hr1) ((hX a.tmps pre x a') () _ _ _ hx1 hg1 hr1)) ?_
    have hk12 : Kp U1 (U1.putObj (D + 1) (.loop (R .busy none))) := hKb _ _ _ _ (by omega) ht1.rcd rfl
    have fin : ∀ (jump : Option Code) (U3 : World), KeepsFrom w.heap.size (U1.putObj (D + 1) (.loop (R .busy none))) U3 →
        (Instr.endRound (D + 1) jump).run P U3 = .ok (.bool jump.isNone) (U3.putObj (D + 1) (.loop (R (if jump.isNone then .ready else .done) jump))) ∧ TwoB D R .busy none U3 := fun jump U3 hk => by
      have hk2 : KeepsFrom D (U1.putObj (D + 1) (.loop (R .busy none))) U3 := by have := hk; rwa [← hD] at this
      have ht3 := ht2.keep hk2
      have := run_endRound (P := P) jump ht3.rcd
      rw [hR] at this ⊢
      exact ⟨this, by rw [hR] at ht3; exact ht3⟩
    have hkp : ∀ (U0 : World) (o : Obj), KeepsFrom W1.heap.size U0 (U0.putObj (D + 1) o) := fun U0 o => ⟨by simp, fun k o' hk h _ => (World.putObj_heap_other (by omega)).trans h⟩
    have hkf : ∀ (U3 : World) (o : Obj), KeepsFrom w.heap.size (U1.putObj (D + 1) (.loop (R .busy none))) U3 → KeepsFrom W1.heap.size U (U3.putObj (D + 1) o) := fun U3 o hk =>
      (KeepsFrom.of_below hb1).trans ((hkp _ _).trans (KeepsFrom.trans ⟨hk.size, fun k o' hk' h hc => hk.same k o' (by omega) h hc⟩ (hkp _ _)))
    have leave : ∀ (c : Code) (U3 : World), KeepsFrom w.heap.size (U1.putObj (D + 1) (.loop (R .busy none))) U3 → Ix c (pre ++ [x]) U3 → ∃ v U4, (Instr.endRound (D + 1) (some c)).run P U3 = .ok v U4 ∧
        ((Ending.returned v = .returned (.bool true) ∧ (I (pre ++ [x]) U4 ∧ TwoB D R .ready none U4) ∧ Kp U U4 ∧ KeepsFrom W1.heap.size U U4) ∨ (Ending.returned v = .returned (.bool false) ∧ (∃ c, Ix c (pre ++ [x]) U4 ∧ TwoB D R .done (some c) U4) ∧ KeepsFrom W1.heap.size U U4)) := fun c U3 hk hx3 => by
      obtain ⟨hrun, ht3⟩ := fin (some c) U3 hk
      obtain ⟨hg3, hr3⟩ := hcalm (.loop (R .done (some c))) ht3
      exact ⟨_, _, hrun, .inr ⟨rfl, ⟨c, hIx c _ _ _ _ hx3 hg3 hr3, ht3.put .done (some c)⟩, hkf U3 _ hk⟩⟩
    rintro e a3 U3 hp
    cases e with
    | normal =>
      obtain ⟨hk, hkm, hi3⟩ := hp
      obtain ⟨hrun, ht3⟩ := fin none U3 hk
      obtain ⟨hg3, hr3⟩ := hcalm (.loop (R .ready none)) ht3
      exact ⟨_, _, hrun, .inl ⟨rfl, ⟨hI _ _ _ _ hi3 hg3 hr3, ht3.put .ready none⟩, hKt (hKl _ _ hsz hb1) (hKt hk12 (hKt hkm (hKb _ _ _ _ (by omega) ht3.rcd rfl))), hkf U3 _ hk⟩⟩
    | ret => exact leave .ret U3 hp.1 hp.2
    | exit id => exact leave (.exit id) U3 hp.1 hp.2
    | goto t => exact leave (.goto t) U3 hp.1 hp.2
    | panic ch => exact hp.elim
    | outgrown => exact hp.elim
  · -- behind the iterator
    have last : ∀ (st : LoopState) (pe : Option Code) (U : World), st ≠ .busy → TwoB D R st pe U → (Instr.endLoop (D + 1)).run P U = .ok pe (U.putObj (D + 1) (.loop (R .exhausted pe))) := fun st pe U hs ht => by
      have := run_endLoop (P := P) ht.rcd (by rw [hR]; exact hs)
      rw [hR] at this ⊢
      exact this
    have calm : ∀ {U0 : World} {st : LoopState} {pe : Option Code} (o : Obj), TwoB D R st pe U0 → U0.grownBy (U0.putObj (D + 1) o) (some (D + 1)) ∧ ∀ r, some (D + 1) = some r → w.heap.size ≤ r ∧ ∃ o' : Obj, U0.heap[r]? = some o' ∧ o'.isCells = false := fun o h =>
      ⟨grownBy_putObj' _ _ _, fun r e => by cases e; exact ⟨by omega, _, h.rcd, rfl⟩⟩
    rintro e U ⟨⟨v, rfl⟩, ⟨xs, hS, hi, ht⟩ | ⟨pre, hSp, c, hi, ht⟩⟩
    · obtain ⟨hg3, hr3⟩ := calm (.loop (R .exhausted none)) ht
      exact ⟨none, _, last _ _ _ (by simp) ht, hdone D xs _ (by omega) hS (hI _ _ _ _ hi hg3 hr3) (ht.put .exhausted none).dfr⟩
    · obtain ⟨hg3, hr3⟩ := calm (.loop (R .exhausted (some c))) ht
      exact ⟨some c, _, last _ _ _ (by simp) ht, wpIn_wide.2 (hstop D c pre _ (by omega) hSp (hIx c _ _ _ _ hi hg3 hr3) (ht.put .exhausted (some c)).dfr)⟩
/-- A round of the wide fence may be asked anywhere. -/
theorem roundIn_any {P : Program} {n m l r : Nat} {f : FuncId} {tmps : Array Value} {a b : Code} {w : World} {R : Ending → World → Prop} (h : RoundIn Fence.wide n P l f tmps a b w R) : RoundIn (Fence.wide.inRound r) m P l f tmps a b w R :=
  ⟨trivial, fun c cs _ => h.2 c cs (room_wide _)⟩
end Go.Proofs.Ytgmhhocpdfdplaa
