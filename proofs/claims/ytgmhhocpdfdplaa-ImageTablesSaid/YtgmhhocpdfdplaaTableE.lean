/- Package image: Table (the table of a place). -/
import Derived.Test.YtgmhhocpdfdplaaComps2
import Derived.Test.YtgmhhocpdfdplaaBlk0
import Derived.Great.BuildSlice
namespace Go.Proofs.Ytgmhhocpdfdplaa
open Go.RowKit
set_option maxRecDepth 100000
set_option maxHeartbeats 4000000
theorem run_alloc_tab {o : Oper} {a : Act} (w : World) (ho : o.op = .alloc 35) : (execOp a.eval o).run Try.prog w = .ok (.value (.pointer (some ⟨w.heap.size, 0, none⟩))) (w.alloc (.cells (ints .u16 (List.replicate 64 0)) 35)) := by
  have h4 : ((Try.prog.info? 35).bind (fun i => i.zero)) = some (.agg (ints .u16 (List.replicate 64 0))) := by kernel_rfl
  obtain ⟨i, hi⟩ : ∃ i, Try.prog.info? 35 = some i := ⟨_, rfl⟩
  rw [hi] at h4
  simp only [Option.bind_some] at h4
  unfold execOp
  simp only [ho]
  have e0 : (Value.agg (ints .u16 (List.replicate 64 0))).cells = ints .u16 (List.replicate 64 0) := rfl
  generalize List.replicate 64 (0 : Int) = z at *
  simp [Instr.alloc, zeroValue, typeInfo, hi, h4, newVar, newRow, e0]
/-- A table's value. -/
def QuantArg.arr (x : QuantArg) : Array Value := x.cells.toArray
theorem QuantArg.arr_size {x : QuantArg} (h : x.Ok) : x.arr.size = 65 := by simp [QuantArg.arr, QuantArg.cells, h.l64]
theorem QuantArg.arr_zero (x : QuantArg) : x.arr[0]? = some (.int .i64 x.at_) := rfl
theorem q_cell {w : World} {a : Addr} {cap : Nat} {qs : List QuantArg} (h : IsQuants w (.slice (some a) qs.length cap) qs) {i : Nat} (hi : i < qs.length) (j : Nat) (hj : j < 65) : w.cell? (a.add (i * 65 + j)) = (qs[i]'hi).cells[j]? := by
  obtain ⟨a', cap', he, hc⟩ := h.el.at (Below.refl _ _) (i := i) (by simpa using hi)
  simp only [Value.slice.injEq, Option.some.injEq] at he
  rw [he.1, hc j hj, getD_map' _ _ _ _ hi]
theorem q_cells_len {x : QuantArg} (h : x.Ok) : x.cells.length = 65 := by simp [QuantArg.cells, h.l64]
theorem q_load {w : World} {a : Addr} {cap : Nat} {qs : List QuantArg} (h : IsQuants w (.slice (some a) qs.length cap) qs) {i : Nat} (hi : i < qs.length) {o : Oper} {act : Act} (y : Operand) (ho : o.op = .load 39 y) (hy : act.eval y = .pointer (some (a.add (i * 65)))) :
    (execOp act.eval o).run Try.prog w = .ok (.value (.agg (qs[i]'hi).arr)) w := by
  have hl := q_cells_len (h.ok _ (List.getElem_mem hi))
  refine run_exec_load_at 39 y ho _ hy (qs[i]'hi).cells _ (fun j v hj => ?_) Try.underlying39 rfl (by rw [hl]; kernel_rfl)
  have hjl : j < 65 := by have := (List.getElem?_eq_some_iff.1 hj).1; omega
  rw [Go.Deep.add_add, q_cell h hi j hjl, hj]
theorem q_load_tab {w : World} {a : Addr} {cap : Nat} {qs : List QuantArg} (h : IsQuants w (.slice (some a) qs.length cap) qs) {i : Nat} (hi : i < qs.length) {o : Oper} {act : Act} (y : Operand) (ho : o.op = .load 35 y) (hy : act.eval y = .pointer (some ⟨(a.add (i * 65)).block, (a.add (i * 65)).off + 1, none⟩)) :
    (execOp act.eval o).run Try.prog w = .ok (.value (.agg (ints .u16 (qs[i]'hi).q))) w := by
  have hl := (h.ok _ (List.getElem_mem hi)).l64
  have hsp : (⟨(a.add (i * 65)).block, (a.add (i * 65)).off + 1, none⟩ : Addr) = (a.add (i * 65)).add 1 := by
    generalize a.add (i * 65) = b
    unfold Addr.add
    rw [if_neg (by decide)]
  rw [hsp] at hy
  refine run_exec_load_at 35 y ho _ hy ((qs[i]'hi).q.map (Value.int .u16)) _ (fun j v hj => ?_) Try.underlying35 rfl (by rw [List.length_map, hl]; kernel_rfl)
  have hjl : j < 64 := by have := (List.getElem?_eq_some_iff.1 hj).1; rw [List.length_map] at this; omega
  rw [Go.Deep.add_add, Go.Deep.add_add, Nat.add_comm 1 j, q_cell h hi (j + 1) (by omega), ← hj]
  rfl
theorem clo_at (M : Nat) (y : Int) (x : QuantArg) (w : World) (hM : M < w.heap.size) (hc : w.cell? ⟨M, 0, none⟩ = some (.int .i64 y)) :
    Calls Try.prog 69 #[.agg x.arr, .pointer (some ⟨M, 0, none⟩)] w fun r w' => r = .returned (.bool (decide (x.at_ = y))) ∧ Below w.heap.size w w' := by
  obtain ⟨N, hN⟩ : ∃ N, N = w.heap.size := ⟨_, rfl⟩
  have HN := Lib.hid hN
  have hz := x.arr_zero
  generalize x.arr = ar at *
  generalize x.at_ = x0 at *
  have hbe : Below w.heap.size w (w.alloc (.cells ar 39)) := (Below.refl _ _).alloc (Nat.le_refl _) _
  rw [← hN]
  go_enter Try.func69, Try.ntmps69
  go_upto_region 1 with fail
  rw [← HN.out]
  refine wp_world (fun W => Blk W N ar 39 ∧ W.cell? ⟨M, 0, none⟩ = some (.int .i64 y) ∧ Below N w W) ⟨Blk.new' _ _ _ HN.out, (hbe.cell (p := ⟨M, 0, none⟩) hM).trans hc, by rw [HN.out]; exact hbe⟩ ?_
  clear hbe hc hN
  rintro W ⟨bN, hc, hB⟩
  have q : W.cell? ⟨N, 0, none⟩ = some (.int .i64 x0) := (bN.cell 0).trans hz
  go_wp2
  go_ret
  refine ⟨?_, hB⟩
  show Ending.returned (.bool (x0 == y)) = _
  have e : (x0 == y) = decide (x0 = y) := rfl
  rw [e]
/-- The first of the places from i on, f of them, that is so; -1. -/
def idxF (p : Nat → Bool) : Nat → Nat → Int
  | 0, _ => -1
  | f + 1, i => if p i = true then i else idxF p f (i + 1)
def noQuant : QuantArg := ⟨0, []⟩
theorem quant_getD {qs : List QuantArg} {k : Nat} (hk : k < qs.length) : qs.getD k noQuant = qs[k]'hk := by simp [List.getD_eq_getElem?_getD, hk]
theorem idx_quant (M : Nat) (y : Int) (qb : Option Addr) (cap : Nat) (qs : List QuantArg) (hl : qs.length ≤ 1000000) (w : World) (h : IsQuants w (.slice qb qs.length cap) qs) (hM : M < w.heap.size) (hc : w.cell? ⟨M, 0, none⟩ = some (.int .i64 y)) :
    Calls Try.prog 68 #[.slice qb qs.length cap, .func (.func 69) #[] #[.pointer (some ⟨M, 0, none⟩)]] w fun e w' => e = .returned (.int .i64 (idxF (fun k => decide ((qs.getD k noQuant).at_ = y)) qs.length 0)) ∧ Below w.heap.size w w' := by
  obtain ⟨p, hp⟩ : ∃ p : Nat → Bool, (fun k => decide ((qs.getD k noQuant).at_ = y)) = p := ⟨_, rfl⟩
  rw [hp]
  obtain ⟨T, hT⟩ : ∃ T, idxF p qs.length 0 = T := ⟨_, rfl⟩
  rw [hT]
  have HT := Lib.hid hT
  have HP := Lib.hid hp
  clear hT hp
  go_enter Try.func68, Try.ntmps68
  go_wp2
  go_loopw [8] (fun iv wr => ∃ i : Nat, iv = .int .i64 i ∧ i ≤ qs.length ∧ idxF p (qs.length - i) i = T ∧ Below w.heap.size w wr) (fun iv _ => qs.length - (intOf iv).toNat)
  case atStart => exact ⟨0, rfl, Nat.zero_le _, HT.out, Below.refl _ _⟩
  case round =>
    obtain ⟨i, rfl, hi, hf, hB⟩ := hrel
    by_cases hlt : i < qs.length
    · have tl : decide (i < qs.length) = true := by simpa using hlt
      have hq := h.below hB
      obtain ⟨a, rfl⟩ : ∃ a, qb = some a := by
        obtain ⟨a', cap', he, -⟩ := hq.el.at (Below.refl _ _) (i := i) (by simpa using hlt)
        exact ⟨a', (Value.slice.inj he).1⟩
      have j0 : (0 : Int) ≤ (i : Int) := by omega
      have j1 : (i : Int) < (qs.length : Int) := by omega
      rw [show qs.length - i = qs.length - (i + 1) + 1 by omega] at hf
      unfold idxF at hf
      have HF := Lib.hid hf
      have hpi : p i = decide ((qs[i]'hlt).at_ = y) := by rw [← HP.out]; simp only [quant_getD hlt]
      have hcl := clo_at M y (qs[i]'hlt) wr (Nat.lt_of_lt_of_le hM hB.size) ((hB.cell (p := ⟨M, 0, none⟩) hM).trans hc)
      rw [← hpi] at hcl
      clear hf hpi
      by_cases hpt : p i = true
      · have hf := HF.out
        rw [if_pos hpt] at hf
        rw [hpt] at hcl
        clear hpt HF
        subst hf
        go_wp2_with (first | (refine Great.wpList_runTo rfl _ rfl _ _ (q_load hq hlt _ rfl rfl) ?_) | (go_at_call 69; refine hcl.mono ?_; rintro r w1 ⟨rfl, hb1⟩; replace hB := hB.trans (hb1.mono hB.size)))
        go_ret
        exact ⟨rfl, hB⟩
      · have hf := HF.out
        rw [if_neg hpt] at hf
        rw [Bool.not_eq_true] at hpt
        rw [hpt] at hcl
        have HF2 := Lib.hid hf
        clear hf hpt HF
        go_wp2_with (first | (refine Great.wpList_runTo rfl _ rfl _ _ (q_load hq hlt _ rfl rfl) ?_) | (go_at_call 69; refine hcl.mono ?_; rintro r w1 ⟨rfl, hb1⟩; replace hB := hB.trans (hb1.mono hB.size)))
        go_roundw
        case rel => exact ⟨i + 1, by go_num, by omega, HF2.out, hB⟩
        case measure => simp [intOf]; omega
    · have tl : decide (i < qs.length) = false := by simpa using hlt
      rw [show qs.length - i = 0 by omega] at hf
      obtain rfl : T = -1 := hf.symm
      go_wp2
      go_ret
      exact ⟨rfl, hB⟩
theorem idxF_bd (p : Nat → Bool) : ∀ (f i : Nat), idxF p f i = -1 ∨ ∃ k : Nat, idxF p f i = k ∧ k < i + f := by
  intro f
  induction f with
  | zero => intro i; exact .inl rfl
  | succ f ih =>
    intro i
    unfold idxF
    split
    · exact .inr ⟨i, rfl, by omega⟩
    · rcases ih (i + 1) with h | ⟨k, h, hk⟩
      · exact .inl h
      · exact .inr ⟨k, h, by omega⟩
/-- Which table is a place's: its index; -1. -/
def tabI (qs : List QuantArg) (y : Int) : Int := idxF (fun k => decide ((qs.getD k noQuant).at_ = y)) qs.length 0
def tabQ (qs : List QuantArg) (y : Int) : List Int := if tabI qs y < 0 then List.replicate 64 0 else (qs.getD (tabI qs y).toNat noQuant).q
theorem img_table (v : Value) (x : ImgArg) (y : Int) (hl : x.qs.length ≤ 1000000) (w : World) (h : IsImg w v x) :
    Calls Try.prog 24 #[v, .int .i64 y] w fun r w' => r = .returned (.tuple #[.agg (ints .u16 (tabQ x.qs y)), .bool (decide (0 ≤ tabI x.qs y))]) ∧ Below w.heap.size w w' := by
  obtain ⟨rfl, -, -, -, hqs, -⟩ := h
  obtain ⟨xw, xh, cu, qu, tu, cs, qs, ts⟩ := x
  simp only [ImgArg.val] at *
  obtain ⟨qb, qcap, rfl⟩ := hqs.len
  obtain ⟨N, hN⟩ : ∃ N, N = w.heap.size := ⟨_, rfl⟩
  have HN := Lib.hid hN
  rw [← hN]
  have hbe : Below w.heap.size w (((w.alloc (.cells #[.int .i64 xw, .int .i64 xh, cu, .slice qb qs.length qcap, tu] 26)).alloc (.cells #[.int .i64 y] 3)).alloc (.cells (ints .u16 (List.replicate 64 0)) 35)) := (((Below.refl _ _).alloc (Nat.le_refl _) _).alloc (by simp) _).alloc (by simp; omega) _
  have b0 := (Blk.new' w #[.int .i64 xw, .int .i64 xh, cu, .slice qb qs.length qcap, tu] 26 hN)
  have b1 := (Blk.new' (w.alloc (.cells #[.int .i64 xw, .int .i64 xh, cu, .slice qb qs.length qcap, tu] 26)) #[.int .i64 y] 3 (n := N + 1) (by simp [hN]))
  have b2 := (Blk.new' ((w.alloc (.cells #[.int .i64 xw, .int .i64 xh, cu, .slice qb qs.length qcap, tu] 26)).alloc (.cells #[.int .i64 y] 3)) (ints .u16 (List.replicate 64 0)) 35 (n := N + 1 + 1) (by simp [hN]))
  obtain ⟨q, hq⟩ : ∃ q, tabQ qs y = q := ⟨_, rfl⟩
  obtain ⟨r, hr⟩ : ∃ r, tabI qs y = r := ⟨_, rfl⟩
  rw [hq, hr]
  have HQ := Lib.hid hq
  have HR := Lib.hid hr
  clear hN hq hr
  go_enter Try.func24, Try.ntmps24
  go_upto_region 1 with (refine Great.wpList_runTo rfl _ rfl _ _ (run_alloc_tab _ rfl) ?_)
  have hN1 : (w.alloc (.cells #[.int .i64 xw, .int .i64 xh, cu, .slice qb qs.length qcap, tu] 26)).heap.size = N + 1 := by simp [HN.out]
  have hN2 : ((w.alloc (.cells #[.int .i64 xw, .int .i64 xh, cu, .slice qb qs.length qcap, tu] 26)).alloc (.cells #[.int .i64 y] 3)).heap.size = N + 2 := by simp [HN.out]
  try rw [hN2]
  try rw [hN1]
  try simp only [← HN.out]
  refine wp_world (fun W => Blk W N #[.int .i64 xw, .int .i64 xh, cu, .slice qb qs.length qcap, tu] 26 ∧ Blk W (N + 1) #[.int .i64 y] 3 ∧ Blk W (N + 1 + 1) (ints .u16 (List.replicate 64 0)) 35 ∧ IsQuants W (.slice qb qs.length qcap) qs ∧ Below N w W) ⟨(b0.alloc _).alloc _, b1.alloc _, b2, hqs.below hbe, by rw [HN.out]; exact hbe⟩ ?_
  clear b0 b1 b2 hbe hqs hN1 hN2
  rintro W ⟨b0, b1, b2, hqs, hB⟩
  have q3 : W.cell? ⟨N, 3, none⟩ = some (.slice qb qs.length qcap) := b0.cell 3
  have hix := idx_quant (N + 1) y qb qcap qs hl W hqs b1.lt (b1.cell 0)
  have hri : idxF (fun k => decide ((qs.getD k noQuant).at_ = y)) qs.length 0 = r := HR.out
  rw [hri] at hix
  have hN2 := b2.lt
  by_cases hr0 : r < 0
  · have tr : decide (r < 0) = true := by simpa using hr0
    have hq : q = List.replicate 64 0 := by rw [← HQ.out]; unfold tabQ; rw [HR.out, if_pos hr0]
    have hd : decide (0 ≤ r) = false := by simpa using hr0
    clear HQ
    subst hq
    have HD := Lib.hid hd
    clear hr0 hd hri
    go_upto_region 3 with (go_at_call 68; refine hix.mono ?_; rintro e w1 ⟨rfl, hb1⟩)
    have b2' := b2.below hb1 b2.lt
    go_wp2_with (first | refine wpList_buildTo rfl 35 _ rfl (some 13) rfl (ints .u16 (List.replicate 64 0)) (by kernel_rfl) ?_ | refine wpList_store_rowTo rfl 35 _ _ rfl rfl (N + 1 + 1) (ints .u16 (List.replicate 64 0)) rfl rfl 35 _ b2' (by rw [ints_size]; kernel_rfl) rfl (ints_one _ _) ?_)
    refine bodyPost_ret (results_row_tmp rfl _ _ (N + 1 + 1) 35 _ _ rfl (b2'.row _) Try.underlying35 rfl (by rw [ints_size]; kernel_rfl)) rfl ?_
    exact ⟨by rw [HD.out]; rfl, Below.setRow (hB.trans (hb1.mono (by omega))) (by omega) _⟩
  · have tr : decide (r < 0) = false := by simpa using hr0
    have hd : decide (0 ≤ r) = true := by simp; omega
    obtain ⟨k, hk, hkl⟩ : ∃ k : Nat, r = k ∧ k < qs.length := by
      rcases idxF_bd (fun k => decide ((qs.getD k noQuant).at_ = y)) qs.length 0 with h | ⟨k, h, hk⟩
      · rw [hri] at h; omega
      · exact ⟨k, by rw [← hri, h], by omega⟩
    have hq : q = (qs[k]'hkl).q := by rw [← HQ.out]; unfold tabQ; rw [HR.out, if_neg hr0, hk, Int.toNat_natCast, quant_getD hkl]
    clear HQ
    subst hq
    have HD := Lib.hid hd
    clear hd hri hr0 HR
    subst hk
    obtain ⟨a, rfl⟩ : ∃ a, qb = some a := by
      obtain ⟨a', cap', he, -⟩ := hqs.el.at (Below.refl _ _) (i := k) (by simpa using hkl)
      exact ⟨a', (Value.slice.inj he).1⟩
    have hl64 := (hqs.ok _ (List.getElem_mem hkl)).l64
    have j0 : (0 : Int) ≤ (k : Int) := by omega
    have j1 : (k : Int) < (qs.length : Int) := by omega
    go_upto_region 4 with (go_at_call 68; refine hix.mono ?_; rintro e w1 ⟨rfl, hb1⟩)
    have b2' := b2.below hb1 b2.lt
    have b0' := b0.below hb1 b0.lt
    have hq' := hqs.below hb1
    have q3' : w1.cell? ⟨N, 3, none⟩ = some (.slice (some a) qs.length qcap) := b0'.cell 3
    go_wp2_with (first | refine Great.wpList_runTo rfl _ rfl _ _ (q_load_tab hq' hkl _ rfl rfl) ?_ | refine wpList_store_rowTo rfl 35 _ _ rfl rfl (N + 1 + 1) (ints .u16 (qs[k]'hkl).q) rfl rfl 35 _ b2' (by rw [ints_size, hl64]; kernel_rfl) (by rw [ints_size, ints_size, hl64]; rfl) (ints_one _ _) ?_)
    refine bodyPost_ret (results_row_tmp rfl _ _ (N + 1 + 1) 35 _ _ rfl (b2'.row (ints .u16 (qs[k]'hkl).q)) Try.underlying35 rfl (by rw [ints_size, hl64]; kernel_rfl)) rfl ?_
    exact ⟨by rw [HD.out]; rfl, Below.setRow (hB.trans (hb1.mono (by omega))) (by omega) _⟩
end Go.Proofs.Ytgmhhocpdfdplaa
