/- Package flip's iterator over all turns, as a contract for ranges over it. -/
import Derived.Test.YtgmhhocpdfdplaaGreatFlipL
import Derived.Test.YtgmhhocpdfdplaaGreatRangeW
import Derived.Test.YtgmhhocpdfdplaaGreatGJ
namespace Go.Proofs.YtgmhhocpdfdplaaGreat
open Go.RowKit Go.Shelf
attribute [local go_sem] Oper.semAt_some
set_option maxRecDepth 100000
set_option maxHeartbeats 8000000
/-- What a round keeps: the blocks below L, and what is cells from M on. -/
structure KB2 (L M : Nat) (A B : World) : Prop where
  c : KeepC M A B
  b : Below L A B
theorem KB2.trans {L M : Nat} {A B C : World} (h : KB2 L M A B) (k : KB2 L M B C) : KB2 L M A C := ⟨h.c.trans k.c, h.b.trans k.b⟩
/-- The turns below i that may be. -/
def ksOf (x : ImgArg) (i : Nat) : List Nat := (List.range i).filter fun k => decide (mayE x (k : Int) = 0)
theorem ksOf_yes {x : ImgArg} {i : Nat} (h : mayE x (i : Int) = 0) : ksOf x (i + 1) = ksOf x i ++ [i] := by
  unfold ksOf
  rw [List.range_succ, List.filter_append]
  simp [h]
theorem ksOf_no {x : ImgArg} {i : Nat} (h : mayE x (i : Int) ≠ 0) : ksOf x (i + 1) = ksOf x i := by
  unfold ksOf
  rw [List.range_succ, List.filter_append]
  simp [h]
theorem ksOf_mem {x : ImgArg} {i k : Nat} : k ∈ ksOf x i ↔ k < i ∧ mayE x (k : Int) = 0 := by
  unfold ksOf
  rw [List.mem_filter, List.mem_range, decide_eq_true_eq]
/-- The next turn that may be. -/
theorem ksOf_next {x : ImgArg} {q k : Nat} (h : ksOf x q = ksOf x k) : (∀ j, q ≤ j → j < k → mayE x (j : Int) ≠ 0) ∧ (mayE x (k : Int) = 0 → q ≤ k) := by
  refine ⟨fun j hj hk h0 => ?_, fun h0 => ?_⟩
  · have h1 : j ∈ ksOf x k := ksOf_mem.2 ⟨hk, h0⟩
    rw [← h] at h1
    have := (ksOf_mem.1 h1).1
    omega
  · by_cases hq : k < q
    · have h1 : k ∈ ksOf x q := ksOf_mem.2 ⟨hq, h0⟩
      rw [h] at h1
      have := (ksOf_mem.1 h1).1
      omega
    · omega
/-- An image turned by k, of rows of its own. -/
structure FlipV (x : ImgArg) (pre : List (Nat × ImgArg)) (p : Nat × ImgArg) (U : World) : Prop where
  k8 : p.1 < 8
  may : mayE x (p.1 : Int) = 0
  pre : pre.map Prod.fst = ksOf x p.1
  d : SameD (flipI x (p.1 : Int)) p.2
  own : OwnT p.2 U
  few : FewOk p.2
  ww : (Lit.int .i64 p.2.w).wf = true
  wh : (Lit.int .i64 p.2.h).wf = true
def encF (p : Nat × ImgArg) : Array Value := #[.int .i64 p.1, p.2.val]
theorem flip_all_fn (x : ImgArg) (w : World) : Calls Tryz.prog 6 #[x.val] w fun e w' => e = .returned (.func (.func 13) #[] #[.pointer (some ⟨w.heap.size, 0, none⟩)]) ∧ w' = w.alloc (.cells #[.int .i64 x.w, .int .i64 x.h, x.cu, x.qu, x.tu] 26) := by
  unfold ImgArg.val
  go_enter Tryz.func6, Tryz.ntmps6
  go_wp2_with fail
  go_ret
  exact ⟨rfl, rfl⟩
theorem flip_hands (n : Nat) (x : ImgArg) (hf : FewOk x) (L M Bn : Nat) (w0 w : World) (hL : L = w0.heap.size) (hI : IsImg w0 x.val x) (hw : Below L w0 w) (hM : M ≤ Bn) (hLM : L ≤ M) (hb : Blk w Bn #[.int .i64 x.w, .int .i64 x.h, x.cu, x.qu, x.tu] 26) :
    Hands n Tryz.prog 13 #[.pointer (some ⟨Bn, 0, none⟩)] encF (FlipV x) (KB2 L M) (fun xs => xs.map Prod.fst = ksOf x 8) (fun _ => True) w := by
  intro lp J Jx W hW hJ hJx hY h0
  have hb' := hb.below hW hb.lt
  have hwW : Below L w0 W := hw.trans (hW.mono (by have := hb.lt; omega))
  have HI := Lib.hid hI
  have hBn := hb'.lt
  refine callsIn_of_wp Tryz.func13 rfl trivial ?_ rfl
  simp only [Tryz.ntmps13, List.size_toArray, List.length_cons, List.length_nil, Nat.reduceAdd, Nat.reduceSub, Array.replicate_succ, Array.replicate_zero, List.push_toArray, List.append_toArray, List.nil_append, List.cons_append]
  gi_wp2
  gi_loopw [6] (fun v wr => ∃ (i : Nat) (pre : List (Nat × ImgArg)), v = .int .i64 i ∧ i ≤ 8 ∧ pre.map Prod.fst = ksOf x i ∧ J pre wr ∧ Blk wr Bn #[.int .i64 x.w, .int .i64 x.h, x.cu, x.qu, x.tu] 26 ∧ Below L w0 wr)
    (fun v wr => 8 - (intOf v).toNat)
  case atStart => exact ⟨0, [], rfl, by omega, rfl, h0, hb', hwW⟩
  case round =>
    obtain ⟨i, pre, rfl, hi, hpre, hJi, hbi, hwi⟩ := hrel
    by_cases hlt : i < 8
    · have tt : decide ((i : Int) < 8) = true := by simp; omega
      have hIw : IsImg wr (.agg #[.int .i64 x.w, .int .i64 x.h, x.cu, x.qu, x.tu]) x := HI.out.below (by rw [← hL]; exact hwi)
      have hc := flip_image x hf (i : Int) wr hIw
      obtain ⟨E, hE⟩ : ∃ E, mayE x (i : Int) = E := ⟨_, rfl⟩
      rw [hE] at hc
      obtain ⟨D, hD⟩ : ∃ D, flipD x (i : Int) = D := ⟨_, rfl⟩
      rw [hD] at hc
      unfold ImgArg.val at hc
      gi_wp2_with (refine wpListIn_load_row ⟨none, rfl⟩ rfl 26 _ rfl Bn rfl 26 _ _ _ hbi Tryz.underlying26 rfl (by kernel_rfl) ?_)
      refine ⟨trivial, fun h => (by cases h), ?_⟩
      refine (callsIn_wide.2 hc).mono ?_
      rintro e w2 ⟨⟨⟨yw, yh, ycu, yqu, ytu, ycs, yqs, yts⟩, hres⟩, hB2⟩
      obtain rfl := hres.r
      obtain ⟨yb, ybc, rfl⟩ : ∃ b c, ycu = .slice b ycs.length c := hres.own.row.len
      obtain ⟨yq, yqc, rfl⟩ : ∃ b c, yqu = .slice b yqs.length c := hres.own.q.len
      obtain ⟨yz, ytc, rfl⟩ : ∃ b c, ytu = .slice b yts.length c := hres.own.t.len
      unfold ImgArg.val
      have hLW : L ≤ wr.heap.size := by have := hbi.lt; omega
      have hbU : Below w2.heap.size w2 ((w2.alloc (.cells #[.int .i64 0, .int .i64 0, .slice none 0 0, .slice none 0 0, .slice none 0 0] 26)).setRow w2.heap.size #[.int .i64 yw, .int .i64 yh, .slice yb ycs.length ybc, .slice yq yqs.length yqc, .slice yz yts.length ytc]) := Below.setRow ((Below.refl _ _).alloc (Nat.le_refl _) _) (Nat.le_refl _) _
      have hB := hB2.trans (hbU.mono hB2.size)
      have hJU : J pre ((w2.alloc (.cells #[.int .i64 0, .int .i64 0, .slice none 0 0, .slice none 0 0, .slice none 0 0] 26)).setRow w2.heap.size #[.int .i64 yw, .int .i64 yh, .slice yb ycs.length ybc, .slice yq yqs.length yqc, .slice yz yts.length ytc]) := hJ _ _ _ none hJi ⟨hB.os, hB.tape, hB.output, hB.size, fun k hk _ => hB.block k hk⟩ (fun r e => by cases e)
      have hbi2 := hbi.below hB hbi.lt
      have hwU := hwi.trans (hB.mono hLW)
      have hq : Blk ((w2.alloc (.cells #[.int .i64 0, .int .i64 0, .slice none 0 0, .slice none 0 0, .slice none 0 0] 26)).setRow w2.heap.size #[.int .i64 yw, .int .i64 yh, .slice yb ycs.length ybc, .slice yq yqs.length yqc, .slice yz yts.length ytc]) w2.heap.size #[.int .i64 yw, .int .i64 yh, .slice yb ycs.length ybc, .slice yq yqs.length yqc, .slice yz yts.length ytc] 26 := (Blk.new _ _ _).row _
      by_cases h0 : E = 0
      · subst h0
        have hVU : FlipV x pre (i, ⟨yw, yh, .slice yb ycs.length ybc, .slice yq yqs.length yqc, .slice yz yts.length ytc, ycs, yqs, yts⟩) ((w2.alloc (.cells #[.int .i64 0, .int .i64 0, .slice none 0 0, .slice none 0 0, .slice none 0 0] 26)).setRow w2.heap.size #[.int .i64 yw, .int .i64 yh, .slice yb ycs.length ybc, .slice yq yqs.length yqc, .slice yz yts.length ytc]) := ⟨hlt, hE, hpre, by have := hres.d; rw [← hD, flipD_yes hE] at this; exact this, hres.own.below hbU, hres.few, hres.ww, hres.wh⟩
        obtain ⟨fn, tmps, assign, body, hy, hRd⟩ := hY pre (i, ⟨yw, yh, .slice yb ycs.length ybc, .slice yq yqs.length yqc, .slice yz yts.length ytc, ycs, yqs, yts⟩) _ hJU hVU
        unfold encF ImgArg.val at hy
        simp only at hy
        have q0 := hq.cell 0; have q1 := hq.cell 1; have q2 := hq.cell 2; have q3 := hq.cell 3; have q4 := hq.cell 4
        gi_wp2_with (refine wpListIn_store_row ⟨none, rfl⟩ rfl 26 _ _ rfl w2.heap.size _ rfl rfl 26 _ (Blk.new _ _ _) (by kernel_rfl) rfl (by simp [Value.oneCell']) ?_)
        refine ⟨fun h => (by cases h), hRd.mono ?_⟩
        rintro e W5 (⟨rfl, hJ5, hk5, -⟩ | ⟨rfl, hJx5, -⟩)
        · gi_wp2
          go_roundw
          case rel =>
            exact ⟨i + 1, _, by go_num, by omega, by rw [List.map_append, hpre, ksOf_yes hE]; rfl, hJ5, hk5.c.blk hbi2 hM, hwU.trans hk5.b⟩
          case measure =>
            simp only [intOf]
            omega
        · gi_wp2
          refine bodyPost_ret (results_none rfl _ _ _) rfl ?_
          exact ⟨⟨_, rfl⟩, .inr ⟨_, trivial, hJx5⟩⟩
      · have t0 : (E == 0) = false := by simpa using h0
        gi_wp2_with (refine wpListIn_store_row ⟨none, rfl⟩ rfl 26 _ _ rfl w2.heap.size _ rfl rfl 26 _ (Blk.new _ _ _) (by kernel_rfl) rfl (by simp [Value.oneCell']) ?_)
        refine ⟨fun f h => (by cases h), ?_⟩
        gi_wp2
        go_roundw
        case rel =>
          exact ⟨i + 1, pre, by go_num, by omega, by rw [ksOf_no (by rw [hE]; exact h0)]; exact hpre, hJU, hbi2, hwU⟩
        case measure =>
          simp only [intOf]
          omega
    · have tf : decide ((i : Int) < 8) = false := by simp; omega
      obtain rfl : i = 8 := by omega
      gi_wp2
      go_end0
      exact ⟨⟨_, rfl⟩, .inl ⟨_, hpre, hJi⟩⟩
end Go.Proofs.YtgmhhocpdfdplaaGreat
