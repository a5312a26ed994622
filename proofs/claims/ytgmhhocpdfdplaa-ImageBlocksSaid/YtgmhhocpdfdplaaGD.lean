/- Texts on one foundation, joined: TableE, Tabs2, Tabs3, Tabs4, Tabs5. -/
import Derived.Test.YtgmhhocpdfdplaaGC
import Derived.Test.YtgmhhocpdfdplaaGB
import Derived.Great.BuildSlice
import Derived.Laws.EntriesVeiled
/- Package image: Table (the table of a place). -/
namespace Go.Proofs.Ytgmhhocpdfdplaa
open Go.RowKit
set_option maxRecDepth 100000
set_option maxHeartbeats 4000000
theorem run_alloc_tab {o : Oper} {a : Act} (w : World) (ho : o.op = .alloc 35) : (execOp a.eval o).run Try.prog w = .ok (.value (.pointer (some ⟨w.heap.size, 0, none⟩))) (w.alloc (.cells (ints .u16 (List.replicate 64 0)) 35)) := by
  have h4 : ((Try.prog.info? 35).bind (fun i => i.zero)) = some (.agg (ints .u16 (List.replicate 64 0))) := by kernel_rfl
  obtain ⟨i, hi⟩ : ∃ i, Try.prog.info? 35 = some i := ⟨_, rfl⟩
  rw [hi] at h4
  simp only [Option.bind_some] at h4
  unfold execOp
  simp only [ho]
  have e0 : (Value.agg (ints .u16 (List.replicate 64 0))).cells = ints .u16 (List.replicate 64 0) := rfl
  generalize List.replicate 64 (0 : Int) = z at *
  simp [Instr.alloc, zeroValue, typeInfo, hi, h4, newVar, newRow, e0]
/-- A table's value. -/
def QuantArg.arr (x : QuantArg) : Array Value := x.cells.toArray
theorem QuantArg.arr_size {x : QuantArg} (h : x.Ok) : x.arr.size = 65 := by simp [QuantArg.arr, QuantArg.cells, h.l64]
theorem QuantArg.arr_zero (x : QuantArg) : x.arr[0]? = some (.int .i64 x.at_) := rfl
theorem q_cell {w : World} {a : Addr} {cap : Nat} {qs : List QuantArg} (h : IsQuants w (.slice (some a) qs.length cap) qs) {i : Nat} (hi : i < qs.length) (j : Nat) (hj : j < 65) : w.cell? (a.add (i * 65 + j)) = (qs[i]'hi).cells[j]? := by
  obtain ⟨a', cap', he, hc⟩ := h.el.at (Below.refl _ _) (i := i) (by simpa using hi)
  simp only [Value.slice.injEq, Option.some.injEq] at he
  rw [he.1, hc j hj, getD_map' _ _ _ _ hi]
theorem q_cells_len {x : QuantArg} (h : x.Ok) : x.cells.length = 65 := by simp [QuantArg.cells, h.l64]
theorem q_load {w : World} {a : Addr} {cap : Nat} {qs : List QuantArg} (h : IsQuants w (.slice (some a) qs.length cap) qs) {i : Nat} (hi : i < qs.length) {o : Oper} {act : Act} (y : Operand) (ho : o.op = .load 39 y) (hy : act.eval y = .pointer (some (a.add (i * 65)))) :
    (execOp act.eval o).run Try.prog w = .ok (.value (.agg (qs[i]'hi).arr)) w := by
  have hl := q_cells_len (h.ok _ (List.getElem_mem hi))
  refine run_exec_load_at 39 y ho _ hy (qs[i]'hi).cells _ (fun j v hj => ?_) Try.underlying39 rfl (by rw [hl]; kernel_rfl)
  have hjl : j < 65 := by have := (List.getElem?_eq_some_iff.1 hj).1; omega
  rw [Go.Deep.add_add, q_cell h hi j hjl, hj]
theorem q_load_tab {w : World} {a : Addr} {cap : Nat} {qs : List QuantArg} (h : IsQuants w (.slice (some a) qs.length cap) qs) {i : Nat} (hi : i < qs.length) {o : Oper} {act : Act} (y : Operand) (ho : o.op = .load 35 y) (hy : act.eval y = .pointer (some ⟨(a.add (i * 65)).block, (a.add (i * 65)).off + 1, none⟩)) :
    (execOp act.eval o).run Try.prog w = .ok (.value (.agg (ints .u16 (qs[i]'hi).q))) w := by
  have hl := (h.ok _ (List.getElem_mem hi)).l64
  have hsp : (⟨(a.add (i * 65)).block, (a.add (i * 65)).off + 1, none⟩ : Addr) = (a.add (i * 65)).add 1 := by
    generalize a.add (i * 65) = b
    unfold Addr.add
    rw [if_neg (by decide)]
  rw [hsp] at hy
  refine run_exec_load_at 35 y ho _ hy ((qs[i]'hi).q.map (Value.int .u16)) _ (fun j v hj => ?_) Try.underlying35 rfl (by rw [List.length_map, hl]; kernel_rfl)
  have hjl : j < 64 := by have := (List.getElem?_eq_some_iff.1 hj).1; rw [List.length_map] at this; omega
  rw [Go.Deep.add_add, Go.Deep.add_add, Nat.add_comm 1 j, q_cell h hi (j + 1) (by omega), ← hj]
  rfl
theorem clo_at (M : Nat) (y : Int) (x : QuantArg) (w : World) (hM : M < w.heap.size) (hc : w.cell? ⟨M, 0, none⟩ = some (.int .i64 y)) :
    Calls Try.prog 69 #[.agg x.arr, .pointer (some ⟨M, 0, none⟩)] w fun r w' => r = .returned (.bool (decide (x.at_ = y))) ∧ Below w.heap.size w w' := by
  obtain ⟨N, hN⟩ : ∃ N, N = w.heap.size := ⟨_, rfl⟩
  have HN := Lib.hid hN
  have hz := x.arr_zero
  generalize x.arr = ar at *
  generalize x.at_ = x0 at *
  have hbe : Below w.heap.size w (w.alloc (.cells ar 39)) := (Below.refl _ _).alloc (Nat.le_refl _) _
  rw [← hN]
  go_enter Try.func69, Try.ntmps69
  go_upto_region 1 with fail
  rw [← HN.out]
  refine wp_world (fun W => Blk W N ar 39 ∧ W.cell? ⟨M, 0, none⟩ = some (.int .i64 y) ∧ Below N w W) ⟨Blk.new' _ _ _ HN.out, (hbe.cell (p := ⟨M, 0, none⟩) hM).trans hc, by rw [HN.out]; exact hbe⟩ ?_
  clear hbe hc hN
  rintro W ⟨bN, hc, hB⟩
  have q : W.cell? ⟨N, 0, none⟩ = some (.int .i64 x0) := (bN.cell 0).trans hz
  go_wp2
  go_ret
  refine ⟨?_, hB⟩
  show Ending.returned (.bool (x0 == y)) = _
  have e : (x0 == y) = decide (x0 = y) := rfl
  rw [e]
/-- The first of the places from i on, f of them, that is so; -1. -/
def idxF (p : Nat → Bool) : Nat → Nat → Int
  | 0, _ => -1
  | f + 1, i => if p i = true then i else idxF p f (i + 1)
def noQuant : QuantArg := ⟨0, []⟩
theorem quant_getD {qs : List QuantArg} {k : Nat} (hk : k < qs.length) : qs.getD k noQuant = qs[k]'hk := by simp [List.getD_eq_getElem?_getD, hk]
theorem idx_quant (M : Nat) (y : Int) (qb : Option Addr) (cap : Nat) (qs : List QuantArg) (hl : qs.length ≤ 1000000) (w : World) (h : IsQuants w (.slice qb qs.length cap) qs) (hM : M < w.heap.size) (hc : w.cell? ⟨M, 0, none⟩ = some (.int .i64 y)) :
    Calls Try.prog 68 #[.slice qb qs.length cap, .func (.func 69) #[] #[.pointer (some ⟨M, 0, none⟩)]] w fun e w' => e = .returned (.int .i64 (idxF (fun k => decide ((qs.getD k noQuant).at_ = y)) qs.length 0)) ∧ Below w.heap.size w w' := by
  obtain ⟨p, hp⟩ : ∃ p : Nat → Bool, (fun k => decide ((qs.getD k noQuant).at_ = y)) = p := ⟨_, rfl⟩
  rw [hp]
  obtain ⟨T, hT⟩ : ∃ T, idxF p qs.length 0 = T := ⟨_, rfl⟩
  rw [hT]
  have HT := Lib.hid hT
  have HP := Lib.hid hp
  clear hT hp
  go_enter Try.func68, Try.ntmps68
  go_wp2
  go_loopw [8] (fun iv wr => ∃ i : Nat, iv = .int .i64 i ∧ i ≤ qs.length ∧ idxF p (qs.length - i) i = T ∧ Below w.heap.size w wr) (fun iv _ => qs.length - (intOf iv).toNat)
  case atStart => exact ⟨0, rfl, Nat.zero_le _, HT.out, Below.refl _ _⟩
  case round =>
    obtain ⟨i, rfl, hi, hf, hB⟩ := hrel
    by_cases hlt : i < qs.length
    · have tl : decide (i < qs.length) = true := by simpa using hlt
      have hq := h.below hB
      obtain ⟨a, rfl⟩ : ∃ a, qb = some a := by
        obtain ⟨a', cap', he, -⟩ := hq.el.at (Below.refl _ _) (i := i) (by simpa using hlt)
        exact ⟨a', (Value.slice.inj he).1⟩
      have j0 : (0 : Int) ≤ (i : Int) := by omega
      have j1 : (i : Int) < (qs.length : Int) := by omega
      rw [show qs.length - i = qs.length - (i + 1) + 1 by omega] at hf
      unfold idxF at hf
      have HF := Lib.hid hf
      have hpi : p i = decide ((qs[i]'hlt).at_ = y) := by rw [← HP.out]; simp only [quant_getD hlt]
      have hcl := clo_at M y (qs[i]'hlt) wr (Nat.lt_of_lt_of_le hM hB.size) ((hB.cell (p := ⟨M, 0, none⟩) hM).trans hc)
      rw [← hpi] at hcl
      clear hf hpi
      by_cases hpt : p i = true
      · have hf := HF.out
        rw [if_pos hpt] at hf
        rw [hpt] at hcl
        clear hpt HF
        subst hf
        go_wp2_with (first | (refine Great.wpList_runTo rfl _ rfl _ _ (q_load hq hlt _ rfl rfl) ?_) | (go_at_call 69; refine hcl.mono ?_; rintro r w1 ⟨rfl, hb1⟩; replace hB := hB.trans (hb1.mono hB.size)))
        go_ret
        exact ⟨rfl, hB⟩
      · have hf := HF.out
        rw [if_neg hpt] at hf
        rw [Bool.not_eq_true] at hpt
        rw [hpt] at hcl
        have HF2 := Lib.hid hf
        clear hf hpt HF
        go_wp2_with (first | (refine Great.wpList_runTo rfl _ rfl _ _ (q_load hq hlt _ rfl rfl) ?_) | (go_at_call 69; refine hcl.mono ?_; rintro r w1 ⟨rfl, hb1⟩; replace hB := hB.trans (hb1.mono hB.size)))
        go_roundw
        case rel => exact ⟨i + 1, by go_num, by omega, HF2.out, hB⟩
        case measure => simp [intOf]; omega
    · have tl : decide (i < qs.length) = false := by simpa using hlt
      rw [show qs.length - i = 0 by omega] at hf
      obtain rfl : T = -1 := hf.symm
      go_wp2
      go_ret
      exact ⟨rfl, hB⟩
theorem idxF_bd (p : Nat → Bool) : ∀ (f i : Nat), idxF p f i = -1 ∨ ∃ k : Nat, idxF p f i = k ∧ k < i + f := by
  intro f
  induction f with
  | zero => intro i; exact .inl rfl
  | succ f ih =>
    intro i
    unfold idxF
    split
    · exact .inr ⟨i, rfl, by omega⟩
    · rcases ih (i + 1) with h | ⟨k, h, hk⟩
      · exact .inl h
      · exact .inr ⟨k, h, by omega⟩
/-- Which table is a place's: its index; -1. -/
def tabI (qs : List QuantArg) (y : Int) : Int := idxF (fun k => decide ((qs.getD k noQuant).at_ = y)) qs.length 0
def tabQ (qs : List QuantArg) (y : Int) : List Int := if tabI qs y < 0 then List.replicate 64 0 else (qs.getD (tabI qs y).toNat noQuant).q
theorem img_table (v : Value) (x : ImgArg) (y : Int) (hl : x.qs.length ≤ 1000000) (w : World) (h : IsImg w v x) :
    Calls Try.prog 24 #[v, .int .i64 y] w fun r w' => r = .returned (.tuple #[.agg (ints .u16 (tabQ x.qs y)), .bool (decide (0 ≤ tabI x.qs y))]) ∧ Below w.heap.size w w' := by
  obtain ⟨rfl, -, -, -, hqs, -⟩ := h
  obtain ⟨xw, xh, cu, qu, tu, cs, qs, ts⟩ := x
  simp only [ImgArg.val] at *
  obtain ⟨qb, qcap, rfl⟩ := hqs.len
  obtain ⟨N, hN⟩ : ∃ N, N = w.heap.size := ⟨_, rfl⟩
  have HN := Lib.hid hN
  rw [← hN]
  have hbe : Below w.heap.size w (((w.alloc (.cells #[.int .i64 xw, .int .i64 xh, cu, .slice qb qs.length qcap, tu] 26)).alloc (.cells #[.int .i64 y] 3)).alloc (.cells (ints .u16 (List.replicate 64 0)) 35)) := (((Below.refl _ _).alloc (Nat.le_refl _) _).alloc (by simp) _).alloc (by simp; omega) _
  have b0 := (Blk.new' w #[.int .i64 xw, .int .i64 xh, cu, .slice qb qs.length qcap, tu] 26 hN)
  have b1 := (Blk.new' (w.alloc (.cells #[.int .i64 xw, .int .i64 xh, cu, .slice qb qs.length qcap, tu] 26)) #[.int .i64 y] 3 (n := N + 1) (by simp [hN]))
  have b2 := (Blk.new' ((w.alloc (.cells #[.int .i64 xw, .int .i64 xh, cu, .slice qb qs.length qcap, tu] 26)).alloc (.cells #[.int .i64 y] 3)) (ints .u16 (List.replicate 64 0)) 35 (n := N + 1 + 1) (by simp [hN]))
  obtain ⟨q, hq⟩ : ∃ q, tabQ qs y = q := ⟨_, rfl⟩
  obtain ⟨r, hr⟩ : ∃ r, tabI qs y = r := ⟨_, rfl⟩
  rw [hq, hr]
  have HQ := Lib.hid hq
  have HR := Lib.hid hr
  clear hN hq hr
  go_enter Try.func24, Try.ntmps24
  go_upto_region 1 with (refine Great.wpList_runTo rfl _ rfl _ _ (run_alloc_tab _ rfl) ?_)
  have hN1 : (w.alloc (.cells #[.int .i64 xw, .int .i64 xh, cu, .slice qb qs.length qcap, tu] 26)).heap.size = N + 1 := by simp [HN.out]
  have hN2 : ((w.alloc (.cells #[.int .i64 xw, .int .i64 xh, cu, .slice qb qs.length qcap, tu] 26)).alloc (.cells #[.int .i64 y] 3)).heap.size = N + 2 := by simp [HN.out]
  try rw [hN2]
  try rw [hN1]
  try simp only [← HN.out]
  refine wp_world (fun W => Blk W N #[.int .i64 xw, .int .i64 xh, cu, .slice qb qs.length qcap, tu] 26 ∧ Blk W (N + 1) #[.int .i64 y] 3 ∧ Blk W (N + 1 + 1) (ints .u16 (List.replicate 64 0)) 35 ∧ IsQuants W (.slice qb qs.length qcap) qs ∧ Below N w W) ⟨(b0.alloc _).alloc _, b1.alloc _, b2, hqs.below hbe, by rw [HN.out]; exact hbe⟩ ?_
  clear b0 b1 b2 hbe hqs hN1 hN2
  rintro W ⟨b0, b1, b2, hqs, hB⟩
  have q3 : W.cell? ⟨N, 3, none⟩ = some (.slice qb qs.length qcap) := b0.cell 3
  have hix := idx_quant (N + 1) y qb qcap qs hl W hqs b1.lt (b1.cell 0)
  have hri : idxF (fun k => decide ((qs.getD k noQuant).at_ = y)) qs.length 0 = r := HR.out
  rw [hri] at hix
  have hN2 := b2.lt
  by_cases hr0 : r < 0
  · have tr : decide (r < 0) = true := by simpa using hr0
    have hq : q = List.replicate 64 0 := by rw [← HQ.out]; unfold tabQ; rw [HR.out, if_pos hr0]
    have hd : decide (0 ≤ r) = false := by simpa using hr0
    clear HQ
    subst hq
    have HD := Lib.hid hd
    clear hr0 hd hri
    go_upto_region 3 with (go_at_call 68; refine hix.mono ?_; rintro e w1 ⟨rfl, hb1⟩)
    have b2' := b2.below hb1 b2.lt
    go_wp2_with (first | refine wpList_buildTo rfl 35 _ rfl (some 13) rfl (ints .u16 (List.replicate 64 0)) (by kernel_rfl) ?_ | refine wpList_store_rowTo rfl 35 _ _ rfl rfl (N + 1 + 1) (ints .u16 (List.replicate 64 0)) rfl rfl 35 _ b2' (by rw [ints_size]; kernel_rfl) rfl (ints_one _ _) ?_)
    refine bodyPost_ret (results_row_tmp rfl _ _ (N + 1 + 1) 35 _ _ rfl (b2'.row _) Try.underlying35 rfl (by rw [ints_size]; kernel_rfl)) rfl ?_
    exact ⟨by rw [HD.out]; rfl, Below.setRow (hB.trans (hb1.mono (by omega))) (by omega) _⟩
  · have tr : decide (r < 0) = false := by simpa using hr0
    have hd : decide (0 ≤ r) = true := by simp; omega
    obtain ⟨k, hk, hkl⟩ : ∃ k : Nat, r = k ∧ k < qs.length := by
      rcases idxF_bd (fun k => decide ((qs.getD k noQuant).at_ = y)) qs.length 0 with h | ⟨k, h, hk⟩
      · rw [hri] at h; omega
      · exact ⟨k, by rw [← hri, h], by omega⟩
    have hq : q = (qs[k]'hkl).q := by rw [← HQ.out]; unfold tabQ; rw [HR.out, if_neg hr0, hk, Int.toNat_natCast, quant_getD hkl]
    clear HQ
    subst hq
    have HD := Lib.hid hd
    clear hd hri hr0 HR
    subst hk
    obtain ⟨a, rfl⟩ : ∃ a, qb = some a := by
      obtain ⟨a', cap', he, -⟩ := hqs.el.at (Below.refl _ _) (i := k) (by simpa using hkl)
      exact ⟨a', (Value.slice.inj he).1⟩
    have hl64 := (hqs.ok _ (List.getElem_mem hkl)).l64
    have j0 : (0 : Int) ≤ (k : Int) := by omega
    have j1 : (k : Int) < (qs.length : Int) := by omega
    go_upto_region 4 with (go_at_call 68; refine hix.mono ?_; rintro e w1 ⟨rfl, hb1⟩)
    have b2' := b2.below hb1 b2.lt
    have b0' := b0.below hb1 b0.lt
    have hq' := hqs.below hb1
    have q3' : w1.cell? ⟨N, 3, none⟩ = some (.slice (some a) qs.length qcap) := b0'.cell 3
    go_wp2_with (first | refine Great.wpList_runTo rfl _ rfl _ _ (q_load_tab hq' hkl _ rfl rfl) ?_ | refine wpList_store_rowTo rfl 35 _ _ rfl rfl (N + 1 + 1) (ints .u16 (qs[k]'hkl).q) rfl rfl 35 _ b2' (by rw [ints_size, hl64]; kernel_rfl) (by rw [ints_size, ints_size, hl64]; rfl) (ints_one _ _) ?_)
    refine bodyPost_ret (results_row_tmp rfl _ _ (N + 1 + 1) 35 _ _ rfl (b2'.row (ints .u16 (qs[k]'hkl).q)) Try.underlying35 rfl (by rw [ints_size, hl64]; kernel_rfl)) rfl ?_
    exact ⟨by rw [HD.out]; rfl, Below.setRow (hB.trans (hb1.mono (by omega))) (by omega) _⟩
end Go.Proofs.Ytgmhhocpdfdplaa
/- Package image: what tables asks of one table: is there a nought, is its place used? -/
namespace Go.Proofs.Ytgmhhocpdfdplaa
open Go.RowKit
set_option maxRecDepth 100000
set_option maxHeartbeats 4000000
theorem q_arr_get {x : QuantArg} (h : x.Ok) (i : Nat) (hi : i < 64) : x.arr[1 + i]? = some (.int .u16 (x.q.getD i 0)) := by
  have hl := h.l64
  show (x.cells.toArray)[1 + i]? = _
  rw [Nat.add_comm 1 i]
  simp [QuantArg.cells, List.getD_eq_getElem?_getD, hl, hi]
theorem idx_zero (K : Nat) (x : QuantArg) (hx : x.Ok) (w : World) (hB : Blk w K x.arr 39) :
    Calls Try.prog 141 #[.slice (some ⟨K, 1, none⟩) 64 64, .int .u16 0] w fun e w' => IdxAny (anyF (fun k => decide (x.q.getD k 0 = 0)) 64 0) e ∧ w = w' := by
  obtain ⟨p, hp⟩ : ∃ p : Nat → Bool, (fun k => decide (x.q.getD k 0 = 0)) = p := ⟨_, rfl⟩
  rw [hp]
  obtain ⟨T, hT⟩ : ∃ T, anyF p 64 0 = T := ⟨_, rfl⟩
  rw [hT]
  have HT := Lib.hid hT
  have HP := Lib.hid hp
  clear hT hp
  go_enter Try.func141, Try.ntmps141
  go_wp2
  go_loop [8] (fun iv => ∃ i : Nat, iv = .int .i64 i ∧ i ≤ 64 ∧ anyF p (64 - i) i = T) (fun iv => 64 - (intOf iv).toNat)
  case atStart => exact ⟨0, rfl, by omega, HT.out⟩
  case round =>
    obtain ⟨i, rfl, hi, hf⟩ := hrel
    by_cases hlt : i < 64
    · have tl : decide ((i : Int) < 64) = true := by simp; omega
      have tl2 : decide (i < 64) = true := by simpa using hlt
      have c : w.cell? ⟨K, 1 + i, none⟩ = some (.int .u16 (x.q.getD i 0)) := by rw [hB.cell (1 + i)]; exact q_arr_get hx i hlt
      have j0 : (0 : Int) ≤ (i : Int) := by omega
      have j1 : (i : Int) < 64 := by omega
      have hpi : p i = decide (x.q.getD i 0 = 0) := by rw [← HP.out]
      rw [show 64 - i = 64 - (i + 1) + 1 by omega] at hf
      have HF := Lib.hid hf
      clear hf
      generalize x.q.getD i 0 = y at *
      by_cases hq : y = 0
      · have hf := HF.out
        rw [anyF_stop p _ i (by rw [hpi]; exact decide_eq_true hq)] at hf
        clear HF hpi
        subst hf hq
        go_wp2
        go_ret
        exact ⟨⟨(i : Int), rfl, by simp⟩, rfl⟩
      · have hf := HF.out
        rw [anyF_go p _ i (by rw [hpi]; exact decide_eq_false hq)] at hf
        have HF2 := Lib.hid hf
        have ty : ((0 : Int) == y) = false := beq_eq_false_iff_ne.2 (fun h => hq h.symm)
        have ty2 : decide ((0 : Int) = y) = false := decide_eq_false (fun h => hq h.symm)
        clear hf HF hpi hq
        go_wp2
        go_round
        case rel => exact ⟨i + 1, by go_num, by omega, HF2.out⟩
        case measure => simp [intOf]; omega
    · have tl : decide ((i : Int) < 64) = false := by simp; omega
      have tl2 : decide (i < 64) = false := by simpa using hlt
      rw [show 64 - i = 0 by omega] at hf
      obtain rfl : T = false := hf.symm
      go_wp2
      go_ret
      exact ⟨⟨-1, rfl, by decide⟩, rfl⟩
/-- Is one of a table's numbers a nought? -/
def zeroQ (x : QuantArg) : Bool := anyF (fun k => decide (x.q.getD k 0 = 0)) 64 0
theorem has_zero (K : Nat) (x : QuantArg) (hx : x.Ok) (w : World) (hB : Blk w K x.arr 39) :
    Calls Try.prog 115 #[.slice (some ⟨K, 1, none⟩) 64 64, .int .u16 0] w fun e w' => e = .returned (.bool (zeroQ x)) ∧ w = w' := by
  have hi := idx_zero K x hx w hB
  unfold zeroQ
  generalize anyF (fun k => decide (x.q.getD k 0 = 0)) 64 0 = b at *
  go_enter Try.func115, Try.ntmps115
  go_wp2_with (go_at_call 141; refine hi.mono ?_; rintro e w1 ⟨⟨r, rfl, hr⟩, rfl⟩)
  go_ret
  exact ⟨by first | rfl | rw [← hr]; rfl, rfl⟩
/-- Is a place a component's? -/
def usedQ (cs : List CompArg) (y : Int) : Bool := anyF (fun k => decide ((cs.getD k noComp).q = y)) cs.length 0
theorem img_used (N : Nat) (xw xh y : Int) (qu tu : Value) (cb : Option Addr) (cap : Nat) (cs : List CompArg) (hl : cs.length ≤ 1000000) (w : World) (bN : Blk w N #[.int .i64 xw, .int .i64 xh, .slice cb cs.length cap, qu, tu] 26) (h : IsComps w (.slice cb cs.length cap) cs) :
    Calls Try.prog 111 #[.int .i64 y, .pointer (some ⟨N, 0, none⟩)] w fun r w' => r = .returned (.bool (usedQ cs y)) ∧ Below w.heap.size w w' := by
  obtain ⟨M, hM⟩ : ∃ M, M = w.heap.size := ⟨_, rfl⟩
  have HM := Lib.hid hM
  rw [← hM]
  unfold usedQ
  have hca : ∀ W, IsComps W (.slice cb cs.length cap) cs → M < W.heap.size → W.cell? ⟨M, 0, none⟩ = some (.int .i64 y) → _ := fun W h1 h2 h3 => has_q M y cb cs.length cap cap cs (Nat.le_refl _) hl W h1 h2 h3
  generalize anyF (fun k => decide ((cs.getD k noComp).q = y)) cs.length 0 = b at *
  have hbe : Below w.heap.size w (w.alloc (.cells #[.int .i64 y] 3)) := (Below.refl _ _).alloc (Nat.le_refl _) _
  clear hM
  go_enter Try.func111, Try.ntmps111
  go_upto_region 1 with fail
  rw [← HM.out]
  refine wp_world (fun W => Blk W M #[.int .i64 y] 3 ∧ Blk W N #[.int .i64 xw, .int .i64 xh, .slice cb cs.length cap, qu, tu] 26 ∧ IsComps W (.slice cb cs.length cap) cs ∧ Below M w W) ⟨Blk.new' _ _ _ HM.out, bN.below hbe bN.lt, h.below hbe, by rw [HM.out]; exact hbe⟩ ?_
  rintro W ⟨bM, bN2, h2, hB⟩
  have q2 : W.cell? ⟨N, 2, none⟩ = some (.slice cb cs.length cap) := bN2.cell 2
  have hcall := hca W h2 bM.lt (bM.cell 0)
  go_wp2_with (go_at_call 108; refine hcall.mono ?_; rintro r w1 ⟨rfl, hb1⟩; have hC := hB.trans (hb1.mono (Nat.le_of_lt bM.lt)))
  go_ret
  exact ⟨rfl, hC⟩
end Go.Proofs.Ytgmhhocpdfdplaa
/- Package image: what tables asks of one table. -/
namespace Go.Proofs.Ytgmhhocpdfdplaa
open Go.RowKit
set_option maxRecDepth 100000
set_option maxHeartbeats 4000000
theorem IsQuants.place {w : World} {b : Option Addr} {cap : Nat} {qs : List QuantArg} (h : IsQuants w (.slice b qs.length cap) qs) {i : Nat} (hi : i < qs.length) : ∃ a, b = some a ∧ w.cell? (a.add (i * 65)) = some (.int .i64 (qs[i]'hi).at_) := by
  obtain ⟨a, cap', he, h0, -⟩ := h.el.get (by decide) (i := i) (by simpa using hi)
  rw [getD_map' _ _ _ _ hi] at h0
  simp only [Value.slice.injEq] at he
  exact ⟨a, he.1, h0⟩
/-- Does a table's place rise? -/
def risesB (qs : List QuantArg) (i : Nat) (y : Int) : Bool := decide (0 ≤ y ∧ y < 4 ∧ (i = 0 ∨ (qs.getD (i - 1) noQuant).at_ < y))
def quantE (cs : List CompArg) (qs : List QuantArg) (i : Nat) (x : QuantArg) : Int := if risesB qs i x.at_ = true ∧ zeroQ x = false ∧ usedQ cs x.at_ = true then 0 else 5
theorem img_tables2 (N U : Nat) (xw xh : Int) (tu : Value) (cb qb : Option Addr) (cap qcap : Nat) (cs : List CompArg) (qs : List QuantArg) (hlc : cs.length ≤ 1000000) (hlq : qs.length ≤ 1000000) (i : Nat) (hi : i < qs.length) (w : World)
    (bN : Blk w N #[.int .i64 xw, .int .i64 xh, .slice cb cs.length cap, .slice qb qs.length qcap, tu] 26) (bU : Blk w U #[.func (.func 111) #[] #[.pointer (some ⟨N, 0, none⟩)]] 159) (hc : IsComps w (.slice cb cs.length cap) cs) (hq : IsQuants w (.slice qb qs.length qcap) qs) :
    Calls Try.prog 114 #[.int .i64 i, .agg (qs[i]'hi).arr, .pointer (some ⟨N, 0, none⟩), .pointer (some ⟨U, 0, none⟩)] w fun r w' => r = .returned (.int .i64 (quantE cs qs i (qs[i]'hi))) ∧ Below w.heap.size w w' := by
  obtain ⟨K, hK⟩ : ∃ K, K = w.heap.size := ⟨_, rfl⟩
  have HK := Lib.hid hK
  rw [← hK]
  have hx := hq.ok _ (List.getElem_mem hi)
  have hbe : Below w.heap.size w (w.alloc (.cells (qs[i]'hi).arr 39)) := (Below.refl _ _).alloc (Nat.le_refl _) _
  have hzc := fun W h => has_zero K (qs[i]'hi) hx W h
  have huc := fun W h1 h2 => img_used N xw xh (qs[i]'hi).at_ (.slice qb qs.length qcap) tu cb cap cs hlc W h1 h2
  have hz0 := (qs[i]'hi).arr_zero
  have hte := fun (b : Bool) W => img_test b 5 W
  have hpr : i = 0 ∨ ∃ j, i = j + 1 ∧ ∃ hj : j < qs.length, qs.getD (i - 1) noQuant = qs[j]'hj := by
    by_cases h0 : i = 0
    · exact .inl h0
    · refine .inr ⟨i - 1, by omega, by omega, quant_getD (by omega)⟩
  obtain ⟨R, hR⟩ : ∃ R, quantE cs qs i (qs[i]'hi) = R := ⟨_, rfl⟩
  rw [hR]
  unfold quantE risesB at hR
  obtain ⟨ar, har⟩ : ∃ ar, (qs[i]'hi).arr = ar := ⟨_, rfl⟩
  rw [har] at hz0 hbe hzc ⊢
  generalize (qs[i]'hi).at_ = y at *
  generalize zeroQ (qs[i]'hi) = z at *
  generalize usedQ cs y = u at *
  clear hK hx har
  have bK0 := Blk.new' w ar 39 HK.out
  have hS : ∀ W, W = w.alloc (.cells ar 39) → Blk W K ar 39 ∧ Blk W N #[.int .i64 xw, .int .i64 xh, .slice cb cs.length cap, .slice qb qs.length qcap, tu] 26 ∧ Blk W U #[.func (.func 111) #[] #[.pointer (some ⟨N, 0, none⟩)]] 159 ∧ IsComps W (.slice cb cs.length cap) cs ∧ IsQuants W (.slice qb qs.length qcap) qs ∧ Below K w W := by
    rintro W rfl
    exact ⟨bK0, bN.below hbe bN.lt, bU.below hbe bU.lt, hc.below hbe, hq.below hbe, by rw [HK.out]; exact hbe⟩
  clear bN bU hc hq hbe bK0
  by_cases hy : 0 ≤ y ∧ y < 4
  · have t1 : decide (0 ≤ y) = true := by simpa using hy.1
    have t2 : decide (y < 4) = true := by simpa using hy.2
    rcases hpr with rfl | ⟨j, rfl, hj, hgd⟩
    · clear hi
      have hri : decide (0 ≤ y ∧ y < 4 ∧ ((0 : Nat) = 0 ∨ (qs.getD (0 - 1) noQuant).at_ < y)) = true := decide_eq_true ⟨hy.1, hy.2, .inl rfl⟩
      rw [hri] at hR
      clear hri
      cases z
      · cases u
        · obtain rfl : R = 5 := by rw [← hR]; simp
          clear hR hy
          go_enter Try.func114, Try.ntmps114
          go_upto_region 1 with fail
          refine wp_world (fun W => Blk W K ar 39 ∧ Blk W N #[.int .i64 xw, .int .i64 xh, .slice cb cs.length cap, .slice qb qs.length qcap, tu] 26 ∧ Blk W U #[.func (.func 111) #[] #[.pointer (some ⟨N, 0, none⟩)]] 159 ∧ IsComps W (.slice cb cs.length cap) cs ∧ IsQuants W (.slice qb qs.length qcap) qs ∧ Below K w W) (hS _ rfl) ?_
          clear hS
          rw [← HK.out]
          rintro W ⟨bK, bN, bU, hc, hq, hB⟩
          have k0 : W.cell? ⟨K, 0, none⟩ = some (.int .i64 y) := (bK.cell 0).trans hz0
          have hBn : ∀ n, Below K w (W.drewN n) := fun n => ⟨hB.os, hB.tape, hB.output, hB.size, hB.block⟩
          go_quiet (fail)
          have u0 : W.cell? ⟨U, 0, none⟩ = some (.func (.func 111) #[] #[.pointer (some ⟨N, 0, none⟩)]) := bU.cell 0
          go_wp2_with (first | (go_at_call 115; refine (hzc _ (bK.drewN _)).mono ?_; rintro r w1 ⟨rfl, rfl⟩) | (go_at_call 111; refine (huc _ (bN.drewN _) (hc.below (Go.Joins.below_draws _ _ _))).mono ?_; rintro r w3 ⟨rfl, hb3⟩; have hC := (hBn _).trans (hb3.mono (Nat.le_of_lt (bK.drewN _).lt))) | (go_at_call 110; refine (hte _ _).mono ?_; rintro r w2 ⟨rfl, rfl⟩))
          go_ret
          exact ⟨rfl, hC⟩
        · obtain rfl : R = 0 := by rw [← hR]; simp
          clear hR hy
          go_enter Try.func114, Try.ntmps114
          go_upto_region 1 with fail
          refine wp_world (fun W => Blk W K ar 39 ∧ Blk W N #[.int .i64 xw, .int .i64 xh, .slice cb cs.length cap, .slice qb qs.length qcap, tu] 26 ∧ Blk W U #[.func (.func 111) #[] #[.pointer (some ⟨N, 0, none⟩)]] 159 ∧ IsComps W (.slice cb cs.length cap) cs ∧ IsQuants W (.slice qb qs.length qcap) qs ∧ Below K w W) (hS _ rfl) ?_
          clear hS
          rw [← HK.out]
          rintro W ⟨bK, bN, bU, hc, hq, hB⟩
          have k0 : W.cell? ⟨K, 0, none⟩ = some (.int .i64 y) := (bK.cell 0).trans hz0
          have hBn : ∀ n, Below K w (W.drewN n) := fun n => ⟨hB.os, hB.tape, hB.output, hB.size, hB.block⟩
          go_quiet (fail)
          have u0 : W.cell? ⟨U, 0, none⟩ = some (.func (.func 111) #[] #[.pointer (some ⟨N, 0, none⟩)]) := bU.cell 0
          go_wp2_with (first | (go_at_call 115; refine (hzc _ (bK.drewN _)).mono ?_; rintro r w1 ⟨rfl, rfl⟩) | (go_at_call 111; refine (huc _ (bN.drewN _) (hc.below (Go.Joins.below_draws _ _ _))).mono ?_; rintro r w3 ⟨rfl, hb3⟩; have hC := (hBn _).trans (hb3.mono (Nat.le_of_lt (bK.drewN _).lt))) | (go_at_call 110; refine (hte _ _).mono ?_; rintro r w2 ⟨rfl, rfl⟩))
          go_ret
          exact ⟨rfl, hC⟩
      · obtain rfl : R = 5 := by rw [← hR]; simp
        clear hR hy huc
        go_enter Try.func114, Try.ntmps114
        go_upto_region 1 with fail
        refine wp_world (fun W => Blk W K ar 39 ∧ Blk W N #[.int .i64 xw, .int .i64 xh, .slice cb cs.length cap, .slice qb qs.length qcap, tu] 26 ∧ Blk W U #[.func (.func 111) #[] #[.pointer (some ⟨N, 0, none⟩)]] 159 ∧ IsComps W (.slice cb cs.length cap) cs ∧ IsQuants W (.slice qb qs.length qcap) qs ∧ Below K w W) (hS _ rfl) ?_
        clear hS
        rw [← HK.out]
        rintro W ⟨bK, bN, bU, hc, hq, hB⟩
        have k0 : W.cell? ⟨K, 0, none⟩ = some (.int .i64 y) := (bK.cell 0).trans hz0
        have hBn : ∀ n, Below K w (W.drewN n) := fun n => ⟨hB.os, hB.tape, hB.output, hB.size, hB.block⟩
        go_quiet (fail)
        go_wp2_with (first | (go_at_call 115; refine (hzc _ (bK.drewN _)).mono ?_; rintro r w1 ⟨rfl, rfl⟩) | (go_at_call 110; refine (hte _ _).mono ?_; rintro r w2 ⟨rfl, rfl⟩))
        go_ret
        exact ⟨rfl, hBn _⟩
    · rw [hgd] at hR
      obtain ⟨p, hprev⟩ : ∃ p, (qs[j]'hj).at_ = p := ⟨_, rfl⟩
      rw [hprev] at hR
      have j0 : (0 : Int) ≤ (j : Int) := by omega
      have j1 : (j : Int) < (qs.length : Int) := by omega
      have z1 : (((j : Int) + 1) == 0) = false := beq_eq_false_iff_ne.2 (by omega)
      have z2 : decide ((j : Int) + 1 = 0) = false := decide_eq_false (by omega)
      have z3 : ((((j + 1 : Nat) : Int)) == 0) = false := beq_eq_false_iff_ne.2 (by omega)
      by_cases hp : p < y
      · have tp : decide (p < y) = true := by simpa using hp
        have hri : decide (0 ≤ y ∧ y < 4 ∧ (j + 1 = 0 ∨ p < y)) = true := decide_eq_true ⟨hy.1, hy.2, .inr hp⟩
        rw [hri] at hR
        clear hri
        cases z
        · cases u
          · obtain rfl : R = 5 := by rw [← hR]; simp
            clear hR hy
            go_enter Try.func114, Try.ntmps114
            go_upto_region 1 with fail
            refine wp_world (fun W => Blk W K ar 39 ∧ Blk W N #[.int .i64 xw, .int .i64 xh, .slice cb cs.length cap, .slice qb qs.length qcap, tu] 26 ∧ Blk W U #[.func (.func 111) #[] #[.pointer (some ⟨N, 0, none⟩)]] 159 ∧ IsComps W (.slice cb cs.length cap) cs ∧ IsQuants W (.slice qb qs.length qcap) qs ∧ Below K w W) (hS _ rfl) ?_
            clear hS
            rw [← HK.out]
            rintro W ⟨bK, bN, bU, hc, hq, hB⟩
            have k0 : W.cell? ⟨K, 0, none⟩ = some (.int .i64 y) := (bK.cell 0).trans hz0
            obtain ⟨a, rfl, cj⟩ := hq.place hj
            rw [hprev] at cj
            have q3 : W.cell? ⟨N, 3, none⟩ = some (.slice (some a) qs.length qcap) := bN.cell 3
            have hBn : ∀ n, Below K w (W.drewN n) := fun n => ⟨hB.os, hB.tape, hB.output, hB.size, hB.block⟩
            go_quiet (fail)
            have u0 : W.cell? ⟨U, 0, none⟩ = some (.func (.func 111) #[] #[.pointer (some ⟨N, 0, none⟩)]) := bU.cell 0
            go_wp2_with (first | (go_at_call 115; refine (hzc _ (bK.drewN _)).mono ?_; rintro r w1 ⟨rfl, rfl⟩) | (go_at_call 111; refine (huc _ (bN.drewN _) (hc.below (Go.Joins.below_draws _ _ _))).mono ?_; rintro r w3 ⟨rfl, hb3⟩; have hC := (hBn _).trans (hb3.mono (Nat.le_of_lt (bK.drewN _).lt))) | (go_at_call 110; refine (hte _ _).mono ?_; rintro r w2 ⟨rfl, rfl⟩))
            go_ret
            exact ⟨rfl, hC⟩
          · obtain rfl : R = 0 := by rw [← hR]; simp
            clear hR hy
            go_enter Try.func114, Try.ntmps114
            go_upto_region 1 with fail
            refine wp_world (fun W => Blk W K ar 39 ∧ Blk W N #[.int .i64 xw, .int .i64 xh, .slice cb cs.length cap, .slice qb qs.length qcap, tu] 26 ∧ Blk W U #[.func (.func 111) #[] #[.pointer (some ⟨N, 0, none⟩)]] 159 ∧ IsComps W (.slice cb cs.length cap) cs ∧ IsQuants W (.slice qb qs.length qcap) qs ∧ Below K w W) (hS _ rfl) ?_
            clear hS
            rw [← HK.out]
            rintro W ⟨bK, bN, bU, hc, hq, hB⟩
            have k0 : W.cell? ⟨K, 0, none⟩ = some (.int .i64 y) := (bK.cell 0).trans hz0
            obtain ⟨a, rfl, cj⟩ := hq.place hj
            rw [hprev] at cj
            have q3 : W.cell? ⟨N, 3, none⟩ = some (.slice (some a) qs.length qcap) := bN.cell 3
            have hBn : ∀ n, Below K w (W.drewN n) := fun n => ⟨hB.os, hB.tape, hB.output, hB.size, hB.block⟩
            go_quiet (fail)
            have u0 : W.cell? ⟨U, 0, none⟩ = some (.func (.func 111) #[] #[.pointer (some ⟨N, 0, none⟩)]) := bU.cell 0
            go_wp2_with (first | (go_at_call 115; refine (hzc _ (bK.drewN _)).mono ?_; rintro r w1 ⟨rfl, rfl⟩) | (go_at_call 111; refine (huc _ (bN.drewN _) (hc.below (Go.Joins.below_draws _ _ _))).mono ?_; rintro r w3 ⟨rfl, hb3⟩; have hC := (hBn _).trans (hb3.mono (Nat.le_of_lt (bK.drewN _).lt))) | (go_at_call 110; refine (hte _ _).mono ?_; rintro r w2 ⟨rfl, rfl⟩))
            go_ret
            exact ⟨rfl, hC⟩
        · obtain rfl : R = 5 := by rw [← hR]; simp
          clear hR hy huc
          go_enter Try.func114, Try.ntmps114
          go_upto_region 1 with fail
          refine wp_world (fun W => Blk W K ar 39 ∧ Blk W N #[.int .i64 xw, .int .i64 xh, .slice cb cs.length cap, .slice qb qs.length qcap, tu] 26 ∧ Blk W U #[.func (.func 111) #[] #[.pointer (some ⟨N, 0, none⟩)]] 159 ∧ IsComps W (.slice cb cs.length cap) cs ∧ IsQuants W (.slice qb qs.length qcap) qs ∧ Below K w W) (hS _ rfl) ?_
          clear hS
          rw [← HK.out]
          rintro W ⟨bK, bN, bU, hc, hq, hB⟩
          have k0 : W.cell? ⟨K, 0, none⟩ = some (.int .i64 y) := (bK.cell 0).trans hz0
          obtain ⟨a, rfl, cj⟩ := hq.place hj
          rw [hprev] at cj
          have q3 : W.cell? ⟨N, 3, none⟩ = some (.slice (some a) qs.length qcap) := bN.cell 3
          have hBn : ∀ n, Below K w (W.drewN n) := fun n => ⟨hB.os, hB.tape, hB.output, hB.size, hB.block⟩
          go_quiet (fail)
          go_wp2_with (first | (go_at_call 115; refine (hzc _ (bK.drewN _)).mono ?_; rintro r w1 ⟨rfl, rfl⟩) | (go_at_call 110; refine (hte _ _).mono ?_; rintro r w2 ⟨rfl, rfl⟩))
          go_ret
          exact ⟨rfl, hBn _⟩
      · have tp : decide (p < y) = false := by simpa using hp
        obtain rfl : R = 5 := by rw [← hR, if_neg (fun hh => by have := (of_decide_eq_true hh.1).2.2; omega)]
        clear hR hy hzc huc hp
        go_enter Try.func114, Try.ntmps114
        go_upto_region 1 with fail
        refine wp_world (fun W => Blk W K ar 39 ∧ Blk W N #[.int .i64 xw, .int .i64 xh, .slice cb cs.length cap, .slice qb qs.length qcap, tu] 26 ∧ Blk W U #[.func (.func 111) #[] #[.pointer (some ⟨N, 0, none⟩)]] 159 ∧ IsComps W (.slice cb cs.length cap) cs ∧ IsQuants W (.slice qb qs.length qcap) qs ∧ Below K w W) (hS _ rfl) ?_
        clear hS
        rw [← HK.out]
        rintro W ⟨bK, bN, bU, hc, hq, hB⟩
        have k0 : W.cell? ⟨K, 0, none⟩ = some (.int .i64 y) := (bK.cell 0).trans hz0
        obtain ⟨a, rfl, cj⟩ := hq.place hj
        rw [hprev] at cj
        have q3 : W.cell? ⟨N, 3, none⟩ = some (.slice (some a) qs.length qcap) := bN.cell 3
        have hBn : ∀ n, Below K w (W.drewN n) := fun n => ⟨hB.os, hB.tape, hB.output, hB.size, hB.block⟩
        go_quiet (fail)
        go_wp2_with (go_at_call 110; refine (hte _ _).mono ?_; rintro r w2 ⟨rfl, rfl⟩)
        go_ret
        exact ⟨rfl, hBn _⟩
  · have hRR : R = 5 := by rw [← hR, if_neg (fun hh => hy (by have := of_decide_eq_true hh.1; exact ⟨this.1, this.2.1⟩))]
    subst hRR
    have tt : decide (0 ≤ y) = false ∨ (decide (0 ≤ y) = true ∧ decide (y < 4) = false) := by simp only [decide_eq_true_eq, decide_eq_false_iff_not]; omega
    clear hR hy hpr hzc huc
    rcases tt with t1 | ⟨t1, t2⟩
    all_goals
      go_enter Try.func114, Try.ntmps114
      go_upto_region 1 with fail
      refine wp_world (fun W => Blk W K ar 39 ∧ Below K w W) ⟨(hS _ rfl).1, (hS _ rfl).2.2.2.2.2⟩ ?_
      clear hS
      rw [← HK.out]
      rintro W ⟨bK, hB⟩
      have k0 : W.cell? ⟨K, 0, none⟩ = some (.int .i64 y) := (bK.cell 0).trans hz0
      go_quiet (fail)
      go_wp2_with (go_at_call 110; refine (hte _ _).mono ?_; rintro r w2 ⟨rfl, rfl⟩)
      go_ret
      exact ⟨rfl, ⟨hB.os, hB.tape, hB.output, hB.size, hB.block⟩⟩
end Go.Proofs.Ytgmhhocpdfdplaa
/- Package image: tables. -/
namespace Go.Proofs.Ytgmhhocpdfdplaa
open Go.RowKit
set_option maxRecDepth 100000
set_option maxHeartbeats 4000000
def zeroQuant : Array Value := #[.int .i64 0] ++ ints .u16 (List.replicate 64 0)
theorem zeroQuant_size : zeroQuant.size = 65 := by simp [zeroQuant]
theorem run_alloc_quant {o : Oper} {a : Act} (w : World) (ho : o.op = .alloc 39) : (execOp a.eval o).run Try.prog w = .ok (.value (.pointer (some ⟨w.heap.size, 0, none⟩))) (w.alloc (.cells zeroQuant 39)) := by
  have h4 : ((Try.prog.info? 39).bind (fun i => i.zero)) = some (.agg zeroQuant) := by kernel_rfl
  obtain ⟨i, hi⟩ : ∃ i, Try.prog.info? 39 = some i := ⟨_, rfl⟩
  rw [hi] at h4
  simp only [Option.bind_some] at h4
  unfold execOp
  simp only [ho]
  have e0 : (Value.agg zeroQuant).cells = zeroQuant := rfl
  generalize zeroQuant = z at *
  simp [Instr.alloc, zeroValue, typeInfo, hi, h4, newVar, newRow, e0]
theorem QuantArg.arr_one (x : QuantArg) : x.arr.all (·.oneCell') = true := by
  rw [Array.all_eq_true_iff_forall_mem]
  intro v hv
  simp [QuantArg.arr, QuantArg.cells] at hv
  rcases hv with rfl | ⟨y, _, rfl⟩ <;> rfl
theorem each_quants (N U : Nat) (qb : Option Addr) (cap : Nat) (qs : List QuantArg) (hl : qs.length ≤ 1000000) (e : Nat → Int) (w : World) (h : IsQuants w (.slice qb qs.length cap) qs)
    (hc : ∀ (i : Nat) (hi : i < qs.length) (W : World), Below w.heap.size w W → Calls Try.prog 114 #[.int .i64 i, .agg (qs[i]'hi).arr, .pointer (some ⟨N, 0, none⟩), .pointer (some ⟨U, 0, none⟩)] W fun r w' => r = .returned (.int .i64 (e i)) ∧ Below W.heap.size W w') :
    Calls Try.prog 113 #[.slice qb qs.length cap, .func (.func 114) #[] #[.pointer (some ⟨N, 0, none⟩), .pointer (some ⟨U, 0, none⟩)]] w fun r w' => r = .returned (.int .i64 (firstE e qs.length 0)) ∧ Below w.heap.size w w' := by
  obtain ⟨T, hT⟩ : ∃ T, firstE e qs.length 0 = T := ⟨_, rfl⟩
  rw [hT]
  have HT := Lib.hid hT
  have HC := Lib.hid hc
  clear hT hc
  go_enter Try.func113, Try.ntmps113
  go_wp2
  go_loopw [10] (fun iv wr => ∃ i : Nat, iv = .int .i64 i ∧ i ≤ qs.length ∧ firstE e (qs.length - i) i = T ∧ Below w.heap.size w wr) (fun iv _ => qs.length - (intOf iv).toNat)
  case atStart => exact ⟨0, rfl, Nat.zero_le _, HT.out, Below.refl _ _⟩
  case round =>
    obtain ⟨i, rfl, hi, hf, hB⟩ := hrel
    by_cases hlt : i < qs.length
    · have tl : decide (i < qs.length) = true := by simpa using hlt
      have hq := h.below hB
      obtain ⟨a, rfl, -⟩ := hq.place hlt
      have j0 : (0 : Int) ≤ (i : Int) := by omega
      have j1 : (i : Int) < (qs.length : Int) := by omega
      have hx := h.ok _ (List.getElem_mem hlt)
      have hx65 := QuantArg.arr_size hx
      have hx1 := (qs[i]'hlt).arr_one
      rw [show qs.length - i = qs.length - (i + 1) + 1 by omega] at hf
      have HF := Lib.hid hf
      have hc := HC.out i hlt
      clear hf
      obtain ⟨M, hM⟩ : ∃ M, M = wr.heap.size := ⟨_, rfl⟩
      have HM := Lib.hid hM
      have hsz := hB.size
      have hql : ∀ {o : Oper} {act : Act} (y : Operand) (_ : o.op = .load 39 y) (_ : act.eval y = .pointer (some (a.add (i * 65)))), _ := fun {o act} y ho hy => q_load (o := o) (act := act) hq hlt y ho hy
      obtain ⟨ar, har⟩ : ∃ ar, (qs[i]'hlt).arr = ar := ⟨_, rfl⟩
      rw [har] at hx65 hx1 hc hql
      clear hM har hx
      go_upto_region 4 with (first | (refine Great.wpList_runTo rfl _ rfl _ _ (hql _ rfl rfl) ?_) | (refine Great.wpList_runTo rfl _ rfl _ _ (run_alloc_quant _ rfl) ?_) | (refine wpList_store_row rfl 39 _ _ rfl M _ (by rw [HM.out]; rfl) rfl 39 _ (Blk.new' _ _ _ HM.out) (by rw [hx65]; kernel_rfl) (by rw [hx65, zeroQuant_size]) hx1 ?_))
      rw [← HM.out]
      refine wp_world (fun W => Blk W M ar 39 ∧ Below w.heap.size w W) ⟨(Blk.new' _ _ _ HM.out).row _, Below.setRow (hB.alloc hsz _) (by rw [HM.out]; exact hsz) _⟩ ?_
      clear hB hq hql hsz
      rintro W ⟨bM, hB⟩
      by_cases he0 : e i = 0
      · have hf := HF.out
        rw [firstE_go e _ i he0] at hf
        have HF2 := Lib.hid hf
        rw [he0] at hc
        clear hf he0 HF
        go_wp2_with (first | (refine wpList_load_row rfl 39 _ rfl M rfl 39 _ _ _ bM Try.underlying39 rfl (by rw [hx65]; kernel_rfl) ?_) | (go_at_call 114; refine (hc _ hB).mono ?_; rintro r w1 ⟨rfl, hb1⟩; replace hB := hB.trans (hb1.mono hB.size)))
        go_roundw
        case rel => exact ⟨i + 1, by go_num, by omega, HF2.out, hB⟩
        case measure => simp [intOf]; omega
      · have hf := HF.out
        rw [firstE_stop e _ i he0] at hf
        rw [hf] at hc he0
        have tn : (T != 0) = true := by simpa using he0
        clear hf he0 HF
        go_wp2_with (first | (refine wpList_load_row rfl 39 _ rfl M rfl 39 _ _ _ bM Try.underlying39 rfl (by rw [hx65]; kernel_rfl) ?_) | (go_at_call 114; refine (hc _ hB).mono ?_; rintro r w1 ⟨rfl, hb1⟩; replace hB := hB.trans (hb1.mono hB.size)))
        go_ret
        exact ⟨rfl, hB⟩
    · have tl : decide (i < qs.length) = false := by simpa using hlt
      rw [show qs.length - i = 0 by omega] at hf
      obtain rfl : T = 0 := hf.symm
      go_wp2
      go_ret
      exact ⟨rfl, hB⟩
end Go.Proofs.Ytgmhhocpdfdplaa
/- Package image: tables. -/
namespace Go.Proofs.Ytgmhhocpdfdplaa
open Go.RowKit
set_option maxRecDepth 100000
set_option maxHeartbeats 4000000
theorem tabQ_len {w : World} {v : Value} {qs : List QuantArg} (h : IsQuants w v qs) (y : Int) : (tabQ qs y).length = 64 := by
  unfold tabQ
  split
  · simp
  · rename_i hn
    unfold tabI at *
    rcases idxF_bd (fun k => decide ((qs.getD k noQuant).at_ = y)) qs.length 0 with h0 | ⟨k, h0, hk⟩
    · rw [h0] at hn; omega
    · rw [h0, Int.toNat_natCast, quant_getD (by omega)]
      exact (h.ok _ (List.getElem_mem _)).l64
/-- Is there no table of a component's place? -/
def compTE (qs : List QuantArg) (x : CompArg) : Int := if 0 ≤ tabI qs x.q then 0 else 5
theorem img_tables3 (N : Nat) (x : ImgArg) (hlq : x.qs.length ≤ 1000000) (i : Int) (c : CompArg) (hu : ∃ ub un uc, c.u = .slice ub un uc) (w : World) (bN : Blk w N #[.int .i64 x.w, .int .i64 x.h, x.cu, x.qu, x.tu] 26) (h : IsImg w x.val x) :
    Calls Try.prog 116 #[.int .i64 i, .agg #[.int .i64 c.id, .int .i64 c.h, .int .i64 c.v, .int .i64 c.q, .int .i64 c.c, .int .i64 c.r, c.u], .pointer (some ⟨N, 0, none⟩)] w fun r w' => r = .returned (.int .i64 (compTE x.qs c)) ∧ Below w.heap.size w w' := by
  obtain ⟨K, hK⟩ : ∃ K, K = w.heap.size := ⟨_, rfl⟩
  have HK := Lib.hid hK
  rw [← hK]
  obtain ⟨ub, un, uc, hu⟩ := hu
  rw [hu]
  unfold compTE
  have htl := tabQ_len h.qs c.q
  generalize c.id = x0 at *
  generalize c.h = x1 at *
  generalize c.v = x2 at *
  generalize c.q = y at *
  generalize c.c = x4 at *
  generalize c.r = x5 at *
  have htb := fun W h => img_table x.val x y hlq W h
  have hte := fun (b : Bool) W => img_test b 5 W
  have hbe : Below w.heap.size w (w.alloc (.cells #[.int .i64 x0, .int .i64 x1, .int .i64 x2, .int .i64 y, .int .i64 x4, .int .i64 x5, .slice ub un uc] 63)) := (Below.refl _ _).alloc (Nat.le_refl _) _
  generalize tabI x.qs y = r at *
  generalize tabQ x.qs y = tq at *
  have hd : (decide (0 ≤ r) = true ∧ (if 0 ≤ r then (0 : Int) else 5) = 0) ∨ (decide (0 ≤ r) = false ∧ (if 0 ≤ r then (0 : Int) else 5) = 5) := by
    by_cases h0 : 0 ≤ r
    · exact .inl ⟨decide_eq_true h0, if_pos h0⟩
    · exact .inr ⟨decide_eq_false h0, if_neg h0⟩
  obtain ⟨R, hR⟩ : ∃ R, (if 0 ≤ r then (0 : Int) else 5) = R := ⟨_, rfl⟩
  rw [hR] at hd ⊢
  unfold ImgArg.val at *
  clear hK hR hu
  rcases hd with ⟨hd, rfl⟩ | ⟨hd, rfl⟩
  all_goals
    rw [hd] at htb
    clear hd
    go_enter Try.func116, Try.ntmps116
    go_upto_region 1 with fail
    rw [← HK.out]
    refine wp_world (fun W => Blk W K #[.int .i64 x0, .int .i64 x1, .int .i64 x2, .int .i64 y, .int .i64 x4, .int .i64 x5, .slice ub un uc] 63 ∧ Blk W N #[.int .i64 x.w, .int .i64 x.h, x.cu, x.qu, x.tu] 26 ∧ IsImg W (.agg #[.int .i64 x.w, .int .i64 x.h, x.cu, x.qu, x.tu]) x ∧ Below K w W) ⟨Blk.new' _ _ _ HK.out, bN.below hbe bN.lt, h.below hbe, by rw [HK.out]; exact hbe⟩ ?_
    rintro W ⟨bK, bN2, hI, hB⟩
    have k3 : W.cell? ⟨K, 3, none⟩ = some (.int .i64 y) := bK.cell 3
    go_upto_region 2 with (first | (refine wpList_load_row rfl 26 _ rfl N rfl 26 _ _ _ bN2 Try.underlying26 rfl (by kernel_rfl) ?_) | (go_at_call 24; refine (htb _ hI).mono ?_; rintro e w1 ⟨rfl, hb1⟩; obtain ⟨M, hM⟩ : ∃ M, M = w1.heap.size := ⟨_, rfl⟩; have HM := Lib.hid hM; clear hM) | (refine Great.wpList_runTo rfl _ rfl _ _ (run_alloc_tab _ rfl) ?_) | (refine wpList_store_row rfl 35 _ _ rfl M _ (by rw [HM.out]; rfl) rfl 35 _ (Blk.new' _ _ _ HM.out) (by rw [ints_size, htl]; kernel_rfl) (by rw [ints_size, ints_size, htl]; rfl) (ints_one _ _) ?_))
    have hC := hB.trans (hb1.mono (Nat.le_of_lt bK.lt))
    have hD : Below K w ((w1.alloc (.cells (ints .u16 (List.replicate 64 0)) 35)).setRow M (ints .u16 tq)) := Below.setRow (hC.alloc (Nat.le_trans (Nat.le_of_lt bK.lt) hb1.size) _) (by rw [HM.out]; exact Nat.le_trans (Nat.le_of_lt bK.lt) hb1.size) _
    refine wp_world (fun W => Below K w W) hD ?_
    clear hD hC hb1
    rintro W2 hD
    go_wp2_with (go_at_call 110; refine (hte _ _).mono ?_; rintro r w2 ⟨rfl, rfl⟩)
    go_ret
    exact ⟨rfl, hD⟩
def quantsE (x : ImgArg) : Int := firstE (fun i => quantE x.cs x.qs i (x.qs.getD i noQuant)) x.qs.length 0
def compsTE (x : ImgArg) : Int := firstE (fun i => compTE x.qs (x.cs.getD i noComp)) x.cs.length 0
/-- The tables' error. -/
def tablesE (x : ImgArg) : Int := if quantsE x = 0 then compsTE x else quantsE x
theorem img_tables (v : Value) (x : ImgArg) (w : World) (h : IsImg w v x) (hf : FewOk x) :
    Calls Try.prog 60 #[v] w fun r w' => r = .returned (.int .i64 (tablesE x)) ∧ Below w.heap.size w w' := by
  have hv := h.val
  subst hv
  have hlc := hf.c20
  have hlq := hf.q20
  obtain ⟨cb, ccap, hcu⟩ := h.cs.len
  obtain ⟨qb, qcap, hqu⟩ := h.qs.len
  obtain ⟨N, hN⟩ : ∃ N, N = w.heap.size := ⟨_, rfl⟩
  have HN := Lib.hid hN
  rw [← hN]
  have hbe : Below w.heap.size w (w.alloc (.cells #[.int .i64 x.w, .int .i64 x.h, x.cu, x.qu, x.tu] 26)) := (Below.refl _ _).alloc (Nat.le_refl _) _
  obtain ⟨R, hR⟩ : ∃ R, tablesE x = R := ⟨_, rfl⟩
  rw [hR]
  have HR := Lib.hid hR
  have hqE : ∀ W, Blk W N #[.int .i64 x.w, .int .i64 x.h, x.cu, x.qu, x.tu] 26 → Blk W (N + 1) #[.func (.func 111) #[] #[.pointer (some ⟨N, 0, none⟩)]] 159 → IsImg W x.val x → Calls Try.prog 113 #[x.qu, .func (.func 114) #[] #[.pointer (some ⟨N, 0, none⟩), .pointer (some ⟨N + 1, 0, none⟩)]] W fun r w' => r = .returned (.int .i64 (quantsE x)) ∧ Below W.heap.size W w' := by
    intro W bN bU hI
    rw [hqu]
    have hq := hI.qs
    have hc := hI.cs
    rw [hqu] at hq
    rw [hcu] at hc
    rw [hcu, hqu] at bN
    refine each_quants N (N + 1) qb qcap x.qs (by omega) _ W hq (fun i hi W' hb => ?_)
    simp only [quant_getD hi]
    exact img_tables2 N (N + 1) x.w x.h x.tu cb qb ccap qcap x.cs x.qs (by omega) (by omega) i hi W' (bN.below hb bN.lt) (bU.below hb bU.lt) (hc.below hb) (hq.below hb)
  have hcE : ∀ W, Blk W N #[.int .i64 x.w, .int .i64 x.h, x.cu, x.qu, x.tu] 26 → IsImg W x.val x → Calls Try.prog 106 #[x.cu, .func (.func 116) #[] #[.pointer (some ⟨N, 0, none⟩)]] W fun r w' => r = .returned (.int .i64 (compsTE x)) ∧ Below W.heap.size W w' := by
    intro W bN hI
    have hc := hI.cs
    rw [hcu] at hc ⊢
    refine each_tables N cb ccap x.cs hlc _ W hc (fun i hi W' hb => ?_)
    simp only [comp_getD hi]
    refine img_tables3 N x (by omega) i (x.cs[i]'hi) ?_ W' (bN.below hb bN.lt) (hI.below hb)
    obtain ⟨ub, uc, hu, _⟩ := (hc.ok _ (List.getElem_mem hi)).ar.len
    exact ⟨ub, _, uc, hu⟩
  clear hN hR hcu hqu
  unfold ImgArg.val at *
  go_enter Try.func60, Try.ntmps60
  go_upto_region 1 with fail
  rw [← HN.out]
  refine wp_world (fun W => W.heap.size = N + 1 ∧ Blk W N #[.int .i64 x.w, .int .i64 x.h, x.cu, x.qu, x.tu] 26 ∧ IsImg W (.agg #[.int .i64 x.w, .int .i64 x.h, x.cu, x.qu, x.tu]) x ∧ Below N w W) ⟨by simp [HN.out], Blk.new' _ _ _ HN.out, h.below hbe, by rw [HN.out]; exact hbe⟩ ?_
  clear h hbe
  rintro W ⟨hsz, bN, hI, hB⟩
  go_upto_region 2 with fail
  have bU0 : Blk (W.alloc (.cells #[.func (.func 111) #[] #[.pointer (some ⟨N, 0, none⟩)]] 159)) (N + 1) #[.func (.func 111) #[] #[.pointer (some ⟨N, 0, none⟩)]] 159 := Blk.new' W _ _ hsz.symm
  have hbw : Below W.heap.size W (W.alloc (.cells #[.func (.func 111) #[] #[.pointer (some ⟨N, 0, none⟩)]] 159)) := (Below.refl _ _).alloc (Nat.le_refl _) _
  refine wp_world (fun W => Blk W N #[.int .i64 x.w, .int .i64 x.h, x.cu, x.qu, x.tu] 26 ∧ Blk W (N + 1) #[.func (.func 111) #[] #[.pointer (some ⟨N, 0, none⟩)]] 159 ∧ IsImg W (.agg #[.int .i64 x.w, .int .i64 x.h, x.cu, x.qu, x.tu]) x ∧ Below N w W) ⟨bN.below hbw bN.lt, bU0, hI.below hbw, hB.trans (hbw.mono (by omega))⟩ ?_
  clear bN hI hB hbw bU0 hsz
  rintro W ⟨bN, bU, hI, hB⟩
  have q2 : W.cell? ⟨N, 2, none⟩ = some x.cu := bN.cell 2
  have q3 : W.cell? ⟨N, 3, none⟩ = some x.qu := bN.cell 3
  have hca := hqE W bN bU hI
  by_cases he : quantsE x = 0
  · have hr : compsTE x = R := by rw [← HR.out]; unfold tablesE; rw [if_pos he]
    rw [he] at hca
    rw [hr] at hcE
    clear he hr HR hqE
    go_upto_region 3 with (go_at_call 113; refine hca.mono ?_; rintro r w1 ⟨rfl, hb1⟩)
    have bN1 := bN.below hb1 bN.lt
    have q21 : w1.cell? ⟨N, 2, none⟩ = some x.cu := bN1.cell 2
    have hcb := hcE w1 bN1 (hI.below hb1)
    have hC := hB.trans (hb1.mono (Nat.le_of_lt bN.lt))
    clear q2 q3 hca hcE
    go_wp2_with (go_at_call 106; refine hcb.mono ?_; rintro r w2 ⟨rfl, hb2⟩; have hD := hC.trans (hb2.mono (Nat.le_of_lt bN1.lt)))
    go_ret
    exact ⟨rfl, hD⟩
  · have hr : quantsE x = R := by rw [← HR.out]; unfold tablesE; rw [if_neg he]
    rw [hr] at hca he
    have te : (R != 0) = true := by simpa using he
    clear he hr HR hqE hcE
    go_wp2_with (go_at_call 113; refine hca.mono ?_; rintro r w1 ⟨rfl, hb1⟩; have hC := hB.trans (hb1.mono (Nat.le_of_lt bN.lt)))
    go_ret
    exact ⟨rfl, hC⟩
end Go.Proofs.Ytgmhhocpdfdplaa
