/- Package image: tables. -/
import Derived.Test.YtgmhhocpdfdplaaTabs3
namespace Go.Proofs.Ytgmhhocpdfdplaa
open Go.RowKit
set_option maxRecDepth 100000
set_option maxHeartbeats 4000000
def zeroQuant : Array Value := #[.int .i64 0] ++ ints .u16 (List.replicate 64 0)
theorem zeroQuant_size : zeroQuant.size = 65 := by simp [zeroQuant]
theorem run_alloc_quant {o : Oper} {a : Act} (w : World) (ho : o.op = .alloc 39) : (execOp a.eval o).run Try.prog w = .ok (.value (.pointer (some ⟨w.heap.size, 0, none⟩))) (w.alloc (.cells zeroQuant 39)) := by
  have h4 : ((Try.prog.info? 39).bind (fun i => i.zero)) = some (.agg zeroQuant) := by kernel_rfl
  obtain ⟨i, hi⟩ : ∃ i, Try.prog.info? 39 = some i := ⟨_, rfl⟩
  rw [hi] at h4
  simp only [Option.bind_some] at h4
  unfold execOp
  simp only [ho]
  have e0 : (Value.agg zeroQuant).cells = zeroQuant := rfl
  generalize zeroQuant = z at *
  simp [Instr.alloc, zeroValue, typeInfo, hi, h4, newVar, newRow, e0]
theorem QuantArg.arr_one (x : QuantArg) : x.arr.all (·.oneCell') = true := by
  rw [Array.all_eq_true_iff_forall_mem]
  intro v hv
  simp [QuantArg.arr, QuantArg.cells] at hv
  rcases hv with rfl | ⟨y, _, rfl⟩ <;> rfl
theorem each_quants (N U : Nat) (qb : Option Addr) (cap : Nat) (qs : List QuantArg) (hl : qs.length ≤ 1000000) (e : Nat → Int) (w : World) (h : IsQuants w (.slice qb qs.length cap) qs)
    (hc : ∀ (i : Nat) (hi : i < qs.length) (W : World), Below w.heap.size w W → Calls Try.prog 114 #[.int .i64 i, .agg (qs[i]'hi).arr, .pointer (some ⟨N, 0, none⟩), .pointer (some ⟨U, 0, none⟩)] W fun r w' => r = .returned (.int .i64 (e i)) ∧ Below W.heap.size W w') :
    Calls Try.prog 113 #[.slice qb qs.length cap, .func (.func 114) #[] #[.pointer (some ⟨N, 0, none⟩), .pointer (some ⟨U, 0, none⟩)]] w fun r w' => r = .returned (.int .i64 (firstE e qs.length 0)) ∧ Below w.heap.size w w' := by
  obtain ⟨T, hT⟩ : ∃ T, firstE e qs.length 0 = T := ⟨_, rfl⟩
  rw [hT]
  have HT := Lib.hid hT
  have HC := Lib.hid hc
  clear hT hc
  go_enter Try.func113, Try.ntmps113
  go_wp2
  go_loopw [10] (fun iv wr => ∃ i : Nat, iv = .int .i64 i ∧ i ≤ qs.length ∧ firstE e (qs.length - i) i = T ∧ Below w.heap.size w wr) (fun iv _ => qs.length - (intOf iv).toNat)
  case atStart => exact ⟨0, rfl, Nat.zero_le _, HT.out, Below.refl _ _⟩
  case round =>
    obtain ⟨i, rfl, hi, hf, hB⟩ := hrel
    by_cases hlt : i < qs.length
    · have tl : decide (i < qs.length) = true := by simpa using hlt
      have hq := h.below hB
      obtain ⟨a, rfl, -⟩ := hq.place hlt
      have j0 : (0 : Int) ≤ (i : Int) := by omega
      have j1 : (i : Int) < (qs.length : Int) := by omega
      have hx := h.ok _ (List.getElem_mem hlt)
      have hx65 := QuantArg.arr_size hx
      have hx1 := (qs[i]'hlt).arr_one
      rw [show qs.length - i = qs.length - (i + 1) + 1 by omega] at hf
      have HF := Lib.hid hf
      have hc := HC.out i hlt
      clear hf
      obtain ⟨M, hM⟩ : ∃ M, M = wr.heap.size := ⟨_, rfl⟩
      have HM := Lib.hid hM
      have hsz := hB.size
      have hql : ∀ {o : Oper} {act : Act} (y : Operand) (_ : o.op = .load 39 y) (_ : act.eval y = .pointer (some (a.add (i * 65)))), _ := fun {o act} y ho hy => q_load (o := o) (act := act) hq hlt y ho hy
      obtain ⟨ar, har⟩ : ∃ ar, (qs[i]'hlt).arr = ar := ⟨_, rfl⟩
      rw [har] at hx65 hx1 hc hql
      clear hM har hx
      go_upto_region 4 with (first | (refine Great.wpList_runTo rfl _ rfl _ _ (hql _ rfl rfl) ?_) | (refine Great.wpList_runTo rfl _ rfl _ _ (run_alloc_quant _ rfl) ?_) | (refine wpList_store_row rfl 39 _ _ rfl M _ (by rw [HM.out]; rfl) rfl 39 _ (Blk.new' _ _ _ HM.out) (by rw [hx65]; kernel_rfl) (by rw [hx65, zeroQuant_size]) hx1 ?_))
      rw [← HM.out]
      refine wp_world (fun W => Blk W M ar 39 ∧ Below w.heap.size w W) ⟨(Blk.new' _ _ _ HM.out).row _, Below.setRow (hB.alloc hsz _) (by rw [HM.out]; exact hsz) _⟩ ?_
      clear hB hq hql hsz
      rintro W ⟨bM, hB⟩
      by_cases he0 : e i = 0
      · have hf := HF.out
        rw [firstE_go e _ i he0] at hf
        have HF2 := Lib.hid hf
        rw [he0] at hc
        clear hf he0 HF
        go_wp2_with (first | (refine wpList_load_row rfl 39 _ rfl M rfl 39 _ _ _ bM Try.underlying39 rfl (by rw [hx65]; kernel_rfl) ?_) | (go_at_call 114; refine (hc _ hB).mono ?_; rintro r w1 ⟨rfl, hb1⟩; replace hB := hB.trans (hb1.mono hB.size)))
        go_roundw
        case rel => exact ⟨i + 1, by go_num, by omega, HF2.out, hB⟩
        case measure => simp [intOf]; omega
      · have hf := HF.out
        rw [firstE_stop e _ i he0] at hf
        rw [hf] at hc he0
        have tn : (T != 0) = true := by simpa using he0
        clear hf he0 HF
        go_wp2_with (first | (refine wpList_load_row rfl 39 _ rfl M rfl 39 _ _ _ bM Try.underlying39 rfl (by rw [hx65]; kernel_rfl) ?_) | (go_at_call 114; refine (hc _ hB).mono ?_; rintro r w1 ⟨rfl, hb1⟩; replace hB := hB.trans (hb1.mono hB.size)))
        go_ret
        exact ⟨rfl, hB⟩
    · have tl : decide (i < qs.length) = false := by simpa using hlt
      rw [show qs.length - i = 0 by omega] at hf
      obtain rfl : T = 0 := hf.symm
      go_wp2
      go_ret
      exact ⟨rfl, hB⟩
end Go.Proofs.Ytgmhhocpdfdplaa
