/- Package past's functions, walked, over memory of their own. -/
import Derived.Test.YtcdfamllamjpeaaRow
import Derived.Test.YtcdfamllamjpeaaMono
import Derived.Test.YtcdfamllamjpeaaDet2
import Derived.Test.YtcdfamllamjpeaaProg
import Derived.Deep.DeepCutAuto
import Derived.BigQuiet
namespace Go.Proofs.Ytcdfamllamjpeaa
open Go.RowKit
/-- From w to w' only these old blocks may have changed. -/
structure Chg (B : Nat → Prop) (w w' : World) : Prop where
  os : w'.os = w.os
  tape : w'.tape = w.tape
  output : w'.output = w.output
  size : w.heap.size ≤ w'.heap.size
  block : ∀ k, k < w.heap.size → ¬ B k → w'.heap[k]? = w.heap[k]?
theorem Chg.refl (B : Nat → Prop) (w : World) : Chg B w w := ⟨rfl, rfl, rfl, Nat.le_refl _, fun _ _ _ => rfl⟩
theorem Chg.trans {B C : Nat → Prop} {a b c : World} (h : Chg B a b) (k : Chg C b c) (hC : ∀ n, n < a.heap.size → C n → B n) : Chg B a c :=
  ⟨k.os.trans h.os, k.tape.trans h.tape, k.output.trans h.output, Nat.le_trans h.size k.size, fun n hn hB => (k.block n (Nat.lt_of_lt_of_le hn h.size) (fun hc => hB (hC n hn hc))).trans (h.block n hn hB)⟩
theorem Chg.of_below {B : Nat → Prop} {w w' : World} (h : Below w.heap.size w w') : Chg B w w' := ⟨h.os, h.tape, h.output, h.size, fun k hk _ => h.block k hk⟩
theorem Chg.below {B : Nat → Prop} {w w' : World} {N : Nat} (h : Chg B w w') (hN : N ≤ w.heap.size) (hB : ∀ k, B k → N ≤ k) : Below N w w' := ⟨h.os, h.tape, h.output, h.size, fun k hk => h.block k (by omega) (fun hb => by have := hB k hb; omega)⟩
theorem Blk.chg {w w' : World} {B : Nat → Prop} {g : Nat} {cs : Array Value} {t : TypeId} (h : Blk w g cs t) (hc : Chg B w w') (hB : ¬ B g) : Blk w' g cs t := (hc.block g h.lt hB).trans h
theorem Row.chg {w w' : World} {B : Nat → Prop} {lo : Nat} {e : TypeId} {size : Nat} {v : Value} {n : Nat} {xs : List Value} (h : Row w lo e size v n xs) (hc : Chg B w w') (hB : ∀ g, v.ownBlock = some g → ¬ B g) : Row w' lo e size v n xs :=
  h.same fun g hg => hc.block g (h.lt g hg).2 (hB g hg)
namespace Pa
/-- An entry: Seq, Size, X. -/
abbrev Ent := Int × Int × Int
def ent (e : Ent) : List Value := [.int .i64 e.1, .int .i64 e.2.1, .int .i64 e.2.2]
def val (e : Ent) : Value := .agg #[.int .i64 e.1, .int .i64 e.2.1, .int .i64 e.2.2]
def cells (l : List Ent) : List Value := l.flatMap ent
theorem cells_len (l : List Ent) : (cells l).length = l.length * 3 := by
  induction l with
  | nil => rfl
  | cons e l ih => simp only [cells, List.flatMap_cons, List.length_append, List.length_cons] at *; rw [ih]; simp [ent]; omega
theorem cells_add (l : List Ent) (e : Ent) : cells l ++ ent e = cells (l ++ [e]) := by simp [cells]
/-- The past at block b: at most so many, these entries, in the slice u. -/
structure At (w : World) (b : Nat) (most : Nat) (u : Value) (l : List Ent) : Prop where
  box : Blk w b #[.int .i64 most, u] 61
  row : Row w 0 29 3 u l.length (cells l)
/-- What a call on the past at b with the slice u may change. -/
def May (b : Nat) (u : Value) (k : Nat) : Prop := k = b ∨ u.ownBlock = some k
theorem At.below {w w' : World} {b most : Nat} {u : Value} {l : List Ent} (h : At w b most u l) (hb : Below w.heap.size w w') : At w' b most u l := ⟨h.box.below hb h.box.lt, h.row.grow hb⟩
end Pa
namespace Pa
theorem cells_cons (e : Ent) (l : List Ent) : cells (e :: l) = ent e ++ cells l := rfl
/-- The slice of a past with entries: its block, and what stands there. -/
theorem At.open {w : World} {b most : Nat} {u : Value} {e : Ent} {l : List Ent} (h : At w b most u (e :: l)) : ∃ g cap, u = .slice (some ⟨g, 0, none⟩) (l.length + 1) cap ∧ l.length + 1 ≤ cap ∧ g < w.heap.size ∧ g ≠ b ∧
    ∀ i, i < (l.length + 1) * 3 → w.cell? ⟨g, i, none⟩ = (cells (e :: l))[i]? := by
  rcases h.row.2 with ⟨_, h0⟩ | ⟨g, cap, cur, hu, h2, h3, h4, h5, h6, h7⟩
  · simp at h0
  · refine ⟨g, cap, hu, h4, h3.lt, h.row.typed h.box (by decide) g (by rw [hu]; rfl), fun i hi => ?_⟩
    rw [h3.cell, ← h7, List.getElem?_take, if_pos (by simpa using hi)]
    simp
end Pa
theorem past_new (n : Nat) (hn : n ≤ 64) (w : World) : Calls Try.prog 9 #[.int .i64 n] w fun e w' => e = .returned (.tuple #[.pointer (some ⟨w.heap.size, 0, none⟩), .int .i64 0]) ∧ Pa.At w' w.heap.size n (.slice none 0 0) [] ∧ Below w.heap.size w w' := by
  go_enter Try.func9, Try.ntmps9
  go_wp2_with fail
  go_ret2
  exact ⟨rfl, ⟨Blk.new _ _ _, Row.nil _ _ _ _⟩, (Below.refl _ _).alloc (Nat.le_refl _) _⟩
set_option maxRecDepth 100000 in
set_option maxHeartbeats 2000000 in
theorem past_first (b most : Nat) (u : Value) (x : Pa.Ent) (l : List Pa.Ent) (hl : l.length ≤ 100000) (w : World) (h : Pa.At w b most u (x :: l)) :
    Calls Try.prog 23 #[.pointer (some ⟨b, 0, none⟩)] w fun e w' => e = .returned (.tuple #[Pa.val x, .bool true]) ∧ ∃ u', Pa.At w' b most u' l ∧ Chg (Pa.May b u) w w' ∧ ∀ g, u'.ownBlock = some g → w.heap.size ≤ g := by
  obtain ⟨N, hN⟩ : ∃ N, N = w.heap.size := ⟨_, rfl⟩
  have HN := Lib.hid hN
  have hbN : b < N := by rw [hN]; exact h.box.lt
  obtain ⟨g, cap, rfl, hcap, hgN, hgb, hc⟩ := h.open
  rw [← hN] at hgN
  rw [← hN]
  clear hN
  obtain ⟨x1, x2, x3⟩ := x
  have hc0 := hc 0 (by omega)
  have hc1 := hc 1 (by omega)
  have hc2 := hc 2 (by omega)
  simp only [Pa.cells_cons, Pa.ent, List.cons_append, List.getElem?_cons_zero, List.getElem?_cons_succ] at hc0 hc1 hc2
  go_enter Try.func23, Try.ntmps23
  go_upto_region 1 with fail
  refine wp_world (fun W => Blk W N #[.int .i64 0, .int .i64 0, .int .i64 0] 29 ∧ Below N w W) ⟨Blk.new' _ _ _ HN.out, (Below.refl _ _).alloc (by rw [HN.out]; exact Nat.le_refl _) _⟩ ?_
  rintro W0 ⟨b0, hB⟩
  rw [← HN.out]
  have hN0 := b0.lt
  have q1 := (h.box.below hB hbN).cell 1
  have c0 := hB.cell (p := ⟨g, 0, none⟩) hgN
  rw [hc0] at c0
  have c1 := hB.cell (p := ⟨g, 1, none⟩) hgN
  rw [hc1] at c1
  have c2 := hB.cell (p := ⟨g, 2, none⟩) hgN
  rw [hc2] at c2
  go_wp2_with fail
  obtain ⟨M, hM⟩ : ∃ M, M = W0.heap.size := ⟨_, rfl⟩
  have HM := Lib.hid hM
  have hNM : N < M := by rw [hM]; exact hN0
  rw [← hM]
  clear hM
  refine wp_world (fun W => Blk W N #[.int .i64 0, .int .i64 0, .int .i64 0] 29 ∧ Blk W M #[.int .i64 x1, .int .i64 x2, .int .i64 x3] 29 ∧ Below N w W) ⟨b0.alloc _, Blk.new' _ _ _ HM.out, hB.alloc (by rw [← HM.out]; omega) _⟩ ?_
  clear b0 hB q1 c0 c1 c2 hN0
  rintro W1 ⟨b0, b1, hB⟩
  have hM1 := b1.lt
  have q1 := (h.box.below hB hbN).cell 1
  have f1 := (h.box.below hB hbN).free 1
  obtain ⟨off, hoff⟩ : ∃ off, (if l = [] then 0 else 3) = off := ⟨_, rfl⟩
  have hif : (if l = [] then some (⟨g, 0, none⟩ : Addr) else some ⟨g, 3, none⟩) = some ⟨g, off, none⟩ := by rw [← hoff]; split <;> rfl
  have hnews : ∀ (w' : World) j v, Below N w w' → (Pa.cells l)[j]? = some v → w'.cell? ((⟨g, off, none⟩ : Addr).add j) = some v := by
    intro w' j v hb hv
    have hj : j < (Pa.cells l).length := (List.getElem?_eq_some_iff.1 hv).1
    have hj2 := Pa.cells_len l
    have hne : l ≠ [] := by rintro rfl; simp [Pa.cells] at hj
    rw [if_neg hne] at hoff
    subst hoff
    have e : (⟨g, 3, none⟩ : Addr).add j = ⟨g, 3 + j, none⟩ := by unfold Addr.add; split <;> simp_all
    rw [e, hb.cell (p := ⟨g, 3 + j, none⟩) hgN, hc (3 + j) (by omega), Pa.cells_cons, List.getElem?_append_right (by simp [Pa.ent])]
    simpa [Pa.ent] using hv
  have HOFF := Lib.hid hoff
  clear hoff
  go_quiet (fail)
  have one : ∀ v ∈ Pa.cells l, v.oneCell' = true := by
    intro v hv
    simp only [Pa.cells, List.mem_flatMap, Pa.ent] at hv
    obtain ⟨e, _, hv⟩ := hv
    simp at hv
    rcases hv with rfl | rfl | rfl <;> rfl
  have hbw := h.box.below hB hbN
  have hB' := Below.drewN' hB nq
  go_upto_region 7 with (refine wpList_append_copy _ rfl _ _ 59 rfl N 29 _ _ 3 24 rfl rfl rfl rfl rfl rfl rfl _ l.length _ (Pa.cells l) rfl (Pa.cells_len l) (fun j v => hnews _ j v hB') one (by simp only [maxLen]; omega) (by omega) (by simp; omega) (fun v' w3 hR1 hg hat => ?_); obtain ⟨bv, cv, rfl⟩ := hR1.len; have hbw3 := (hbw.drewN nq).grown hg (by simp); have q3 := hbw3.cell 1; have f3 := hbw3.free 1)
  have hat2 : ∀ k, (Value.slice bv l.length cv).ownBlock = some k → M < k := by
    intro k hk
    rcases hat with e | e
    · rw [e] at hk; cases hk
    · rw [e] at hk; cases hk; exact hM1
  have hbN' : b ≠ N := by omega
  have hbM' : b ≠ M := by omega
  refine wp_world (fun W => Blk W N #[.int .i64 0, .int .i64 0, .int .i64 0] 29 ∧ Blk W M #[.int .i64 x1, .int .i64 x2, .int .i64 x3] 29 ∧ Pa.At W b most (.slice bv l.length cv) l ∧ Chg (· = b) w W) ⟨?_, ?_, ⟨?_, ?_⟩, ?_⟩ ?_
  · exact ((b0.drewN nq).grown hg (by simp)).other _ _ (fun e => hbN' e.symm)
  · exact ((b1.drewN nq).grown hg (by simp)).other _ _ (fun e => hbM' e.symm)
  · exact hbw3.set 1 _
  · exact (hR1.other _ _ (fun k hk => by have := hat2 k hk; show k ≠ b; omega)).down (by omega)
  · have hB3 : Below N w w3 := Below.grown hB' (by rw [HN.out]; exact hB'.size) hg (fun _ e => by cases e)
    exact ⟨hB3.os, hB3.tape, hB3.output, by simpa using hB3.size, fun k hk hkb => by
      have h1 := hB3.block k (by rw [HN.out]; exact hk)
      rw [← h1]
      exact heap_setCell_other _ _ _ _ hkb⟩
  clear b0 b1 hB hB' hbw hbw3 q1 f1 q3 f3 hg hR1 hnews
  rintro W4 ⟨b0, b1, hAt, hC⟩
  go_wp2_with (first | (refine wpList_load_row rfl 29 _ rfl M rfl 29 _ _ _ b1 Try.underlying29 rfl (by kernel_rfl) ?_) | (refine wpList_store_row rfl 29 _ _ rfl N _ rfl rfl 29 _ b0 (by kernel_rfl) rfl (by simp [Value.oneCell']) ?_))
  refine bodyPost_ret (results_row_tmp rfl _ _ N 29 _ _ rfl (b0.row _) Try.underlying29 rfl (by kernel_rfl)) rfl ?_
  refine ⟨rfl, _, ⟨hAt.box.rowOther _ _ hbN', hAt.row.same fun k hk => setRow_other _ _ _ _ (by have := hat2 k hk; omega)⟩, ?_, fun k hk => by have := hat2 k hk; omega⟩
  exact ⟨hC.os, hC.tape, hC.output, by simpa using hC.size, fun k hk hm => (setRow_other _ _ _ _ (by rw [← HN.out] at hk; omega)).trans (hC.block k hk (fun e => hm (.inl e)))⟩
end Go.Proofs.Ytcdfamllamjpeaa
