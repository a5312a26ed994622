/- The example of the statements on images: its walk. -/
import Derived.Test.YtgmhhocpdfdplaaBlank
namespace Go.Proofs.Ytgmhhocpdfdplaa
open Go.RowKit
set_option maxRecDepth 100000
set_option maxHeartbeats 8000000
def onesTo (i : Nat) : List Int := List.replicate i 1 ++ List.replicate (64 - i) 0
def qOnes (i : Nat) : QuantArg := ⟨0, onesTo i⟩
theorem onesTo_len {i : Nat} (h : i ≤ 64) : (onesTo i).length = 64 := by simp [onesTo]; omega
theorem qOnes_size {i : Nat} (h : i ≤ 64) : (qOnes i).arr.size = 65 := by simp [QuantArg.arr, QuantArg.cells, qOnes, onesTo_len h]
theorem qOnes_step {i : Nat} (h : i < 64) : (qOnes i).arr.setIfInBounds (1 + i) (.int .u16 1) = (qOnes (i + 1)).arr := by
  have e : (onesTo i).set i 1 = onesTo (i + 1) := by
    unfold onesTo
    rw [List.set_append_right _ _ (by simp), List.length_replicate, Nat.sub_self, show 64 - i = (64 - (i + 1)) + 1 by omega, List.replicate_succ, List.set_cons_zero, List.replicate_succ', List.append_assoc]
    rfl
  unfold QuantArg.arr QuantArg.cells qOnes
  rw [List.setIfInBounds_toArray, Nat.add_comm, List.set_cons_succ, ← e, List.map_set]
theorem run_slice_quant {o : Oper} {a : Act} {w : World} (x : Operand) (ho : o.op = .buildSlice 23 1 #[(0, x)]) (q : Array Value) (hx : a.eval x = .agg q) (hq : q.size = 65) :
    (execOp a.eval o).run Try.prog w = .ok (.value (.slice (some ⟨w.heap.size, 0, none⟩) 1 1)) (w.alloc (.cells q 39)) := by
  obtain ⟨i, hi⟩ : ∃ i, Try.prog.info? 39 = some i := ⟨_, rfl⟩
  have h3 : (Try.prog.info? 39).map (fun i => i.size) = some 65 := by kernel_rfl
  have h4 : (Try.prog.info? 39).bind (fun i => i.zero) = some (.agg (qOnes 0).arr) := by kernel_rfl
  have h5 := qOnes_size (i := 0) (by simp)
  generalize (qOnes 0).arr = z at *
  rw [hi] at h3 h4
  simp only [Option.map_some, Option.some.injEq, Option.bind_some] at h3 h4
  have hf := Great.fill_whole (s := i.size) (by omega) [Value.agg q] ((Array.range (1 * i.size)).map ((Value.agg z).cells[· % (Value.agg z).cells.size]!))
    (by intro v hv; simp only [List.mem_singleton] at hv; subst hv; simp [Value.cells, hq, h3]) (by simp)
  have he : ([Value.agg q].flatMap fun v => v.cells.toList).toArray = q := by simp [Value.cells]
  rw [he] at hf
  unfold execOp
  simp only [ho, Sem.run_bind]
  rw [run_buildSlice w 23 39 1 _ q i _ Try.underlying23 hi h4 (by omega) (by omega) (by simpa [hx] using hf)]
  rfl
def awC (c r : Int) (u : Value) (bs : List (List Int)) : CompArg := ⟨1, 1, 1, 0, c, r, u, bs⟩
def awX (cu qu : Value) : ImgArg := ⟨9, 8, cu, qu, .slice none 0 0, [awC 0 0 (.slice none 0 0) []], [qOnes 64], []⟩
def aw1 (cu qu tu u : Value) : ImgArg := ⟨9, 8, cu, qu, tu, [awC 2 1 u [List.replicate 64 0, List.replicate 64 0]], [qOnes 64], []⟩
theorem aw_fr (cu qu : Value) : frE (awX cu qu) = 0 := by rfl
theorem aw_g (cu qu : Value) : frG (awX cu qu) = [⟨2, 1, 2, 1⟩] := by rfl
theorem aw_e (cu qu tu u : Value) : imgE (aw1 cu qu tu u) = 0 := by rfl
theorem aw_size (cu qu tu u : Value) : sizeN (aw1 cu qu tu u) = 468 := by rfl
theorem aw_few (cu qu : Value) : FewOk (awX cu qu) := ⟨by simp [awX], by simp [awX], by simp [awX], fun c hc => by simp [awX] at hc; subst hc; simp [awC], fun t ht => by simp [awX] at ht⟩
theorem aw_few1 (cu qu tu u : Value) : FewOk (aw1 cu qu tu u) := ⟨by simp [aw1], by simp [aw1], by simp [aw1], fun c hc => by simp [aw1] at hc; subst hc; simp [awC], fun t ht => by simp [aw1] at ht⟩
theorem aw_img {W : World} {c q : Nat} (h1 : Blk W c #[.int .i64 1, .int .i64 1, .int .i64 1, .int .i64 0, .int .i64 0, .int .i64 0, .slice none 0 0] 63) (h2 : Blk W q (qOnes 64).arr 39) :
    IsImg W (awX (.slice (some ⟨c, 0, none⟩) 1 1) (.slice (some ⟨q, 0, none⟩) 1 1)).val (awX (.slice (some ⟨c, 0, none⟩) 1 1) (.slice (some ⟨q, 0, none⟩) 1 1)) := by
  have r1 : Row W 0 63 7 (.slice (some ⟨c, 0, none⟩) 1 1) 1 (([awC 0 0 (.slice none 0 0) []].map CompArg.cells).flatten) := ⟨rfl, .inr ⟨c, 1, _, rfl, Nat.zero_le _, h1, Nat.le_refl _, by simp [maxLen], by simp, by simp [awC, CompArg.cells]⟩⟩
  have hs := qOnes_size (i := 64) (by decide)
  have r2 : Row W 0 39 65 (.slice (some ⟨q, 0, none⟩) 1 1) 1 (([qOnes 64].map QuantArg.cells).flatten) := ⟨by simpa [QuantArg.arr] using hs, .inr ⟨q, 1, _, rfl, Nat.zero_le _, h2, Nat.le_refl _, by simp [maxLen], by rw [hs]; decide, by
    have hl : (qOnes 64).cells.length = 65 := by simpa [QuantArg.arr] using hs
    simp only [QuantArg.arr, List.map_cons, List.map_nil, List.flatten_cons, List.flatten_nil, List.append_nil]
    rw [List.take_of_length_le (by omega)]⟩⟩
  refine ⟨rfl, by rfl, by rfl, ⟨Ar.elems r1.ar (fun c hc => by obtain ⟨p, _, rfl⟩ := List.mem_map.1 hc; rfl) rfl (by simp [maxLen]), fun x hx => ?_⟩, ⟨Ar.elems r2.ar (fun c hc => by simp [awX] at hc; subst hc; simpa [QuantArg.arr] using hs) rfl (by simp [maxLen]), fun x hx => ?_⟩, ⟨Ar.elems (Ar.nil _ 2) (by simp [awX]) rfl (by simp), by simp [awX]⟩⟩
  · simp only [awX, List.mem_singleton] at hx
    subst hx
    exact ⟨Ar.nil _ _, fun b hb => by simp [awC] at hb, fun b hb => by simp [awC] at hb, rfl, rfl, rfl, rfl, rfl, rfl⟩
  · simp only [awX, List.mem_singleton] at hx
    subst hx
    refine ⟨rfl, onesTo_len (by decide), fun y hy => ?_⟩
    have : y = 1 := by
      have h0 : onesTo 64 = List.replicate 64 1 := by rfl
      have hy' : y ∈ onesTo 64 := hy
      rw [h0] at hy'
      exact List.eq_of_mem_replicate hy'
    subst this
    rfl
theorem aw_res {cu qu v : Value} {e : Int} {w : World} (h : BlankRes (awX cu qu) v e w) :
    e = 0 ∧ ∃ cb ccap qb qcap tb tcap u, v = .agg #[.int .i64 9, .int .i64 8, .slice cb 1 ccap, .slice qb 1 qcap, .slice tb 0 tcap] ∧ IsImg w v (aw1 (.slice cb 1 ccap) (.slice qb 1 qcap) (.slice tb 0 tcap) u) := by
  obtain ⟨x1, hB, he, -, h2⟩ := h.2 (aw_fr _ _)
  obtain ⟨xw, xh, xcu, xqu, xtu, xcs, xqs, xts⟩ := x1
  obtain ⟨hw, hh, hq, ht, hc, -⟩ := hB
  simp only at hw hh hq ht hc
  subst hw hh hq ht
  obtain ⟨hlen, hlo, -⟩ := hc
  obtain ⟨c, rfl⟩ : ∃ c, xcs = [c] := by
    match xcs, hlen with
    | [c], _ => exact ⟨c, rfl⟩
  have hcb := hlo 0 (by simp [awX]) (by simp [awX])
  rw [aw_g] at hcb
  obtain ⟨cid, ch, cv, cq, cc, cr, cu1, cbs⟩ := c
  obtain ⟨g1, g2, g3, g4, g5, g6, g7⟩ := hcb
  simp [awX, awC, zeroBs] at g1 g2 g3 g4 g5 g6 g7
  subst g1 g2 g3 g4 g5 g6 g7
  have he0 : e = 0 := by rw [he]; exact aw_e xcu xqu xtu cu1
  refine ⟨he0, ?_⟩
  obtain ⟨hv, hI⟩ := h2 he0
  obtain ⟨cb, ccap, rfl⟩ : ∃ b cap, xcu = .slice b 1 cap := hI.cs.len
  obtain ⟨qb, qcap, rfl⟩ : ∃ b cap, xqu = .slice b 1 cap := hI.qs.len
  obtain ⟨tb, tcap, rfl⟩ : ∃ b cap, xtu = .slice b 0 cap := hI.ts.len
  subst hv
  exact ⟨cb, ccap, qb, qcap, tb, tcap, cu1, rfl, hI⟩
theorem awake11a (w : World) : Calls Try.prog 18 #[] w fun e w' => e = .returned (.bool true) ∧ Below w.heap.size w w' := by
  obtain ⟨P, hP⟩ : ∃ P, P = w.heap.size := ⟨_, rfl⟩
  have HP := Lib.hid hP
  rw [← hP]
  clear hP
  go_enter Try.func18, Try.ntmps18
  go_upto_region 2 with (first | refine wpList_buildTo rfl 39 _ rfl (some 7) rfl (qOnes 0).arr (by kernel_rfl) ?_ | refine wpList_allocTo rfl (some 1) rfl _ _ (run_alloc_quant _ rfl) ?_ | refine wpList_store_rowTo rfl 39 _ _ rfl rfl P (qOnes 0).arr (by rw [HP.out]; rfl) rfl 39 zeroQuant (Blk.new' _ _ _ HP.out) (by rw [qOnes_size (by decide)]; kernel_rfl) (by rw [zeroQuant_size, qOnes_size (by decide)]) (QuantArg.arr_one _) ?_)
  rw [← HP.out]
  refine wp_world (fun W => Blk W P (qOnes 0).arr 39 ∧ Below P w W) ⟨(Blk.new' _ _ _ HP.out).row _, by rw [HP.out]; exact Below.setRow ((Below.refl _ _).alloc (Nat.le_refl _) _) (Nat.le_refl _) _⟩ ?_
  rintro W ⟨bP, hB⟩
  go_wp2
  go_loopw [2] (fun iv wr => ∃ i : Nat, i ≤ 64 ∧ iv = .int .i64 i ∧ Blk wr P (qOnes i).arr 39 ∧ Below P w wr) (fun iv _ => 64 - (intOf iv).toNat)
  case atStart => exact ⟨0, by decide, rfl, bP, hB⟩
  case round =>
    clear bP hB
    obtain ⟨i, hi, rfl, bP, hB⟩ := hrel
    by_cases hlt : i < 64
    · have tl : decide ((i : Int) < 64) = true := by simp; omega
      have j0 : (0 : Int) ≤ (i : Int) := by omega
      have j1 : (i : Int) < 64 := by omega
      have q : ∃ a, wr.cell? ⟨P, 1 + i, none⟩ = some a := ⟨_, (bP.cell _).trans (Array.getElem?_eq_getElem (by rw [qOnes_size hi]; omega))⟩
      obtain ⟨qa, q⟩ := q
      have f := bP.free (1 + i)
      have hset := bP.set (1 + i) (.int .u16 1)
      rw [qOnes_step hlt] at hset
      go_wp2
      go_roundw
      case rel => exact ⟨i + 1, by omega, by go_num, hset, hB.setCell (Nat.le_refl _) _⟩
      case measure => simp [intOf]; omega
    · obtain rfl : i = 64 := by omega
      have tl : decide ((64 : Int) < 64) = false := rfl
      go_upto_region 7 with (first | (refine wpList_load_row rfl 39 _ rfl P rfl 39 _ _ _ (bP.alloc _) Try.underlying39 rfl (by rw [qOnes_size (by decide)]; kernel_rfl) ?_) | (refine Great.wpList_runTo rfl _ rfl _ _ (run_slice_quant _ rfl _ rfl (qOnes_size (by decide))) ?_) | (go_at_call 26; refine (img_blank (awX _ _) (aw_few _ _) _ (aw_img ((Blk.new _ _ _).alloc _) (Blk.new' _ _ _ (by simp)))).mono ?_; rintro r w5 ⟨v, e, rfl, hb5, hres⟩; obtain ⟨rfl, cb, ccap, qb, qcap, tb, tcap, u, rfl, hI⟩ := aw_res hres))
      obtain ⟨M, hM⟩ : ∃ M, M = w5.heap.size := ⟨_, rfl⟩
      rw [← hM]
      have hPl := bP.lt
      have hB5 : Below P w w5 := ((hB.alloc (Nat.le_of_lt hPl) _).alloc (by simp; omega) _).trans (hb5.mono (by simp; omega))
      have hsz : P ≤ w5.heap.size := Nat.le_trans (by simp; omega) hb5.size
      refine wp_world (fun W => Blk W M #[.int .i64 9, .int .i64 8, .slice cb 1 ccap, .slice qb 1 qcap, .slice tb 0 tcap] 26 ∧ IsImg W (.agg #[.int .i64 9, .int .i64 8, .slice cb 1 ccap, .slice qb 1 qcap, .slice tb 0 tcap]) (aw1 (.slice cb 1 ccap) (.slice qb 1 qcap) (.slice tb 0 tcap) u) ∧ Below P w W) ⟨Blk.new' _ _ _ hM, hI.below ((Below.refl _ _).alloc (Nat.le_refl _) _), hB5.alloc hsz _⟩ ?_
      have hPM : P ≤ M := by rw [hM]; exact hsz
      clear hI hb5 hM hB5 hsz bP hB hres hPl
      rintro W6 ⟨bM, hI, hB⟩
      have hsz := img_size_ok _ _ W6 hI (aw_few1 _ _ _ _) (fun W h => by
        have := img_right (aw1 (.slice cb 1 ccap) (.slice qb 1 qcap) (.slice tb 0 tcap) u) W h (aw_few1 (.slice cb 1 ccap) (.slice qb 1 qcap) (.slice tb 0 tcap) u)
        rwa [aw_e] at this)
      rw [aw_size] at hsz
      obtain ⟨a, ha, c0, c1, c2, c3, c4, c5, c6⟩ := IsComps.at (b := cb) (cap := ccap) (xs := [awC 2 1 u [List.replicate 64 0, List.replicate 64 0]]) hI.cs (i := 0) (by simp)
      obtain ⟨ub, ucap, hu, -⟩ := (hI.cs.ok (awC 2 1 u [List.replicate 64 0, List.replicate 64 0]) (by simp [aw1])).ar.len
      have hu2 : u = .slice ub 2 ucap := hu
      subst hu2
      subst ha
      have hcs := hI.cs
      go_upto_region 8 with (first | (refine wpList_load_row rfl 26 _ rfl M rfl 26 _ _ _ bM Try.underlying26 rfl (by kernel_rfl) ?_) | (go_at_call 21; refine hsz.mono ?_; rintro r w7 ⟨rfl, hb7⟩))
      have m2 : w7.cell? ⟨M, 2, none⟩ = some (.slice (some a) 1 ccap) := (bM.below hb7 bM.lt).cell 2
      have k6 : w7.cell? ⟨a.block, a.off + 4 + 2, none⟩ = some (.slice ub 2 ucap) := by
        obtain ⟨a', ha', -, -, -, -, -, -, c6⟩ := IsComps.at (b := some a) (cap := ccap) (xs := [awC 2 1 (.slice ub 2 ucap) [List.replicate 64 0, List.replicate 64 0]]) (hI.cs.below hb7) (i := 0) (by simp)
        cases ha'
        have e : a.add (0 * 7) = a := by rw [Nat.zero_mul]; obtain ⟨ab, ao, ae⟩ := a; cases ae <;> rfl
        rw [e] at c6
        exact c6
      have hC := hB.trans (hb7.mono (Nat.le_of_lt (Nat.lt_of_le_of_lt hPM bM.lt)))
      clear c0 c1 c2 c3 c4 c5 c6 hcs bM hI hB
      go_wp2
      go_ret
      exact ⟨rfl, hC⟩
end Go.Proofs.Ytgmhhocpdfdplaa
