/- Package image: blocks, and the closures it hands to each. -/
import Derived.Test.YtgmhhocpdfdplaaRanged
import Derived.Test.YtgmhhocpdfdplaaEachC
import Derived.Test.YtgmhhocpdfdplaaBlk0
namespace Go.Proofs.Ytgmhhocpdfdplaa
open Go.RowKit
set_option maxRecDepth 100000
set_option maxHeartbeats 4000000
def blockE (b : List Int) : Int := if rangedB b = true then 0 else 10
theorem img_blocks11 (i : Int) (b : List Int) (hl : b.length = 64) (w : World) : Calls Try.prog 121 #[.int .i64 i, .agg (ints .i16 b)] w fun r w' => r = .returned (.int .i64 (blockE b)) ∧ Below w.heap.size w w' := by
  obtain ⟨N, hN⟩ : ∃ N, N = w.heap.size := ⟨_, rfl⟩
  have HN := Lib.hid hN
  rw [← hN]
  clear hN
  have hra := fun W => img_ranged b hl W
  have hte := fun W => img_test (rangedB b) 10 W
  unfold blockE
  generalize rangedB b = q at *
  go_enter Try.func121, Try.ntmps121
  go_upto_region 1 with fail
  rw [← HN.out]
  refine wp_world (fun W => Blk W N (ints .i16 b) 57 ∧ Below N w W) ⟨Blk.new' _ _ _ HN.out, (Below.refl _ _).alloc (by rw [HN.out]; exact Nat.le_refl _) _⟩ ?_
  rintro W ⟨bN, hB⟩
  go_wp2_with (first | (refine wpList_load_row rfl 57 _ rfl N rfl 57 _ _ _ bN Try.underlying57 rfl (by rw [ints_size, hl]; kernel_rfl) ?_) | (go_at_call 122; refine (hra _).mono ?_; rintro r w1 ⟨rfl, hb1⟩; have hC := hB.trans (hb1.mono (Nat.le_of_lt bN.lt))) | (go_at_call 110; refine (hte _).mono ?_; rintro r w2 ⟨rfl, rfl⟩))
  all_goals
    go_ret
    exact ⟨rfl, hC⟩
theorem ar_loady {w : World} {ad : Addr} {cap n : Nat} {bs : List (List Int)} (h : Ar w 64 (.slice (some ad) n cap) n (bcells bs)) (h64 : Right64 bs) (i : Nat) (hi : i < bs.length) (x : List Int) (hx : bs.getD i [] = x) {o : Oper} {a : Act} (y : Operand) (ho : o.op = .load 57 y) (hy : a.eval y = .pointer (some (ad.add (i * 64)))) :
    (execOp a.eval o).run Try.prog w = .ok (.value (.agg (ints .i16 x))) w := hx ▸ ar_load h h64 i hi y ho hy
theorem each_block (u : Value) (bs : List (List Int)) (h64 : Right64 bs) (hl : bs.length ≤ 1000000) (w : World) (h : Ar w 64 u bs.length (bcells bs)) :
    Calls Try.prog 120 #[u, .func (.func 121) #[] #[]] w fun r w' => r = .returned (.int .i64 (firstE (fun i => blockE (bs.getD i [])) bs.length 0)) ∧ Below w.heap.size w w' := by
  obtain ⟨e, he⟩ : ∃ e : Nat → Int, (fun i => blockE (bs.getD i [])) = e := ⟨_, rfl⟩
  rw [he]
  obtain ⟨T, hT⟩ : ∃ T, firstE e bs.length 0 = T := ⟨_, rfl⟩
  rw [hT]
  have HT := Lib.hid hT
  have HE := Lib.hid he
  clear hT he
  obtain ⟨ub, cap, rfl, -⟩ := h.len
  go_enter Try.func120, Try.ntmps120
  go_wp2
  go_loopw [10] (fun iv wr => ∃ i : Nat, iv = .int .i64 i ∧ i ≤ bs.length ∧ firstE e (bs.length - i) i = T ∧ Below w.heap.size w wr) (fun iv _ => bs.length - (intOf iv).toNat)
  case atStart => exact ⟨0, rfl, Nat.zero_le _, HT.out, Below.refl _ _⟩
  case round =>
    obtain ⟨i, rfl, hi, hf, hB⟩ := hrel
    by_cases hlt : i < bs.length
    · have tl : decide (i < bs.length) = true := by simpa using hlt
      have hA := h.below hB
      obtain ⟨ad, rfl⟩ : ∃ ad, ub = some ad := by
        rcases hA.2 with ⟨h0, h1⟩ | ⟨ad, _, h0, _⟩
        · omega
        · exact ⟨ad, by simpa using (Value.slice.inj h0).1⟩
      have j0 : (0 : Int) ≤ (i : Int) := by omega
      have j1 : (i : Int) < (bs.length : Int) := by omega
      obtain ⟨x, hx⟩ : ∃ x, bs.getD i [] = x := ⟨_, rfl⟩
      have hx64 : x.length = 64 := by
        rw [← hx, List.getD_eq_getElem?_getD, List.getElem?_eq_getElem hlt]
        exact h64 _ (List.getElem_mem hlt)
      have hei : e i = blockE x := by rw [← HE.out, ← hx]
      have hc := fun W => img_blocks11 (i : Int) x hx64 W
      rw [← hei] at hc
      rw [show bs.length - i = bs.length - (i + 1) + 1 by omega] at hf
      have HF := Lib.hid hf
      clear hf hei
      obtain ⟨M, hM⟩ : ∃ M, M = wr.heap.size := ⟨_, rfl⟩
      have HM := Lib.hid hM
      clear hM
      go_upto_region 4 with (first | (refine Great.wpList_runTo rfl _ rfl _ _ (ar_loady hA h64 i hlt x hx _ rfl rfl) ?_) | (refine Great.wpList_runTo rfl _ rfl _ _ (run_alloc_blk _ rfl) ?_) | (refine wpList_store_row rfl 57 _ _ rfl M _ (by rw [HM.out]; rfl) rfl 57 _ (Blk.new' _ _ _ HM.out) (by rw [ints_size, hx64]; kernel_rfl) (by rw [ints_size, ints_size, hx64]; rfl) (ints_one _ _) ?_))
      rw [← HM.out]
      refine wp_world (fun W => Blk W M (ints .i16 x) 57 ∧ Below w.heap.size w W) ⟨(Blk.new' _ _ _ HM.out).row _, Below.setRow (hB.alloc hB.size _) (by rw [HM.out]; exact hB.size) _⟩ ?_
      clear hB hA
      rintro W ⟨bM, hB⟩
      by_cases he0 : e i = 0
      · have hf := HF.out
        rw [firstE_go e _ i he0] at hf
        have HF2 := Lib.hid hf
        rw [he0] at hc
        clear hf he0 HF
        go_wp2_with (first | (refine wpList_load_row rfl 57 _ rfl M rfl 57 _ _ _ bM Try.underlying57 rfl (by rw [ints_size, hx64]; kernel_rfl) ?_) | (go_at_call 121; refine (hc _).mono ?_; rintro r w1 ⟨rfl, hb1⟩; replace hB := hB.trans (hb1.mono hB.size)))
        go_roundw
        case rel => exact ⟨i + 1, by go_num, by omega, HF2.out, hB⟩
        case measure => simp [intOf]; omega
      · have hf := HF.out
        rw [firstE_stop e _ i he0] at hf
        rw [hf] at hc he0
        have tn : (T != 0) = true := by simpa using he0
        clear hf he0 HF
        go_wp2_with (first | (refine wpList_load_row rfl 57 _ rfl M rfl 57 _ _ _ bM Try.underlying57 rfl (by rw [ints_size, hx64]; kernel_rfl) ?_) | (go_at_call 121; refine (hc _).mono ?_; rintro r w1 ⟨rfl, hb1⟩; replace hB := hB.trans (hb1.mono hB.size)))
        go_ret
        exact ⟨rfl, hB⟩
    · have tl : decide (i < bs.length) = false := by simpa using hlt
      rw [show bs.length - i = 0 by omega] at hf
      obtain rfl : T = 0 := hf.symm
      go_wp2
      go_ret
      exact ⟨rfl, hB⟩
/-- The error of a component's blocks. -/
def compBE (x : CompArg) : Int := firstE (fun i => blockE (x.bs.getD i [])) x.bs.length 0
theorem img_blocks1 (i : Int) (x : CompArg) (hl : x.bs.length ≤ 1000000) (w : World) (h : x.Ok w) : Calls Try.prog 119 #[.int .i64 i, .agg #[.int .i64 x.id, .int .i64 x.h, .int .i64 x.v, .int .i64 x.q, .int .i64 x.c, .int .i64 x.r, x.u]] w fun r w' => r = .returned (.int .i64 (compBE x)) ∧ Below w.heap.size w w' := by
  obtain ⟨N, hN⟩ : ∃ N, N = w.heap.size := ⟨_, rfl⟩
  have HN := Lib.hid hN
  rw [← hN]
  have hea := fun W (hb : Below w.heap.size w W) => each_block x.u x.bs h.h64 hl W (h.ar.below hb)
  rw [← hN] at hea
  obtain ⟨T, hT⟩ : ∃ T, firstE (fun i => blockE (x.bs.getD i [])) x.bs.length 0 = T := ⟨_, rfl⟩
  unfold compBE
  rw [hT] at hea ⊢
  obtain ⟨ub, ucap, hu, -⟩ := h.ar.len
  obtain ⟨x0, x1, x2, x3, x4, x5, u, bs⟩ := x
  simp only at hu hea ⊢
  subst hu
  clear hT hl h hN
  go_enter Try.func119, Try.ntmps119
  go_upto_region 1 with fail
  rw [← HN.out]
  refine wp_world (fun W => Blk W N #[.int .i64 x0, .int .i64 x1, .int .i64 x2, .int .i64 x3, .int .i64 x4, .int .i64 x5, .slice ub bs.length ucap] 63 ∧ Below N w W) ⟨Blk.new' _ _ _ HN.out, (Below.refl _ _).alloc (by rw [HN.out]; exact Nat.le_refl _) _⟩ ?_
  rintro W ⟨bN, hB⟩
  have q6 : W.cell? ⟨N, 6, none⟩ = some (.slice ub bs.length ucap) := bN.cell 6
  go_wp2_with (go_at_call 120; refine (hea _ hB).mono ?_; rintro r w1 ⟨rfl, hb1⟩; have hC := hB.trans (hb1.mono (Nat.le_of_lt bN.lt)))
  go_ret
  exact ⟨rfl, hC⟩
def blocksE (cs : List CompArg) : Int := firstE (fun i => compBE (cs.getD i ⟨0, 0, 0, 0, 0, 0, .slice none 0 0, []⟩)) cs.length 0
theorem img_blocks (v : Value) (x : ImgArg) (w : World) (h : IsImg w v x) (hf : FewOk x) :
    Calls Try.prog 62 #[v] w fun r w' => r = .returned (.int .i64 (blocksE x.cs)) ∧ Below w.heap.size w w' := by
  obtain ⟨rfl, -, -, hcs, -, -⟩ := h
  have hl := hf.c20
  have h300 := hf.b300
  obtain ⟨xw, xh, cu, qu, tu, cs, qs, ts⟩ := x
  simp only [ImgArg.val] at *
  obtain ⟨cb, ccap, rfl⟩ := hcs.len
  have hbe : Below w.heap.size w (w.alloc (.cells #[.int .i64 xw, .int .i64 xh, .slice cb cs.length ccap, qu, tu] 26)) := (Below.refl _ _).alloc (Nat.le_refl _) _
  obtain ⟨N, hN⟩ : ∃ N, N = w.heap.size := ⟨_, rfl⟩
  have HN := Lib.hid hN
  rw [← hN]
  obtain ⟨R, hR⟩ : ∃ R, blocksE cs = R := ⟨_, rfl⟩
  rw [hR]
  have HR := Lib.hid hR
  have H300 := Lib.hid h300
  clear hf hN hR h300
  go_enter Try.func62, Try.ntmps62
  go_upto_region 1 with fail
  rw [← HN.out]
  refine wp_world (fun W => Blk W N #[.int .i64 xw, .int .i64 xh, .slice cb cs.length ccap, qu, tu] 26 ∧ IsComps W (.slice cb cs.length ccap) cs ∧ Below N w W) ⟨Blk.new' _ _ _ HN.out, hcs.below hbe, by rw [HN.out]; exact hbe⟩ ?_
  clear hcs hbe
  rintro W ⟨bN, hcs, hB⟩
  have q2 : W.cell? ⟨N, 2, none⟩ = some (.slice cb cs.length ccap) := bN.cell 2
  have hea := each_blocks cb ccap cs hl (fun i => compBE (cs.getD i ⟨0, 0, 0, 0, 0, 0, .slice none 0 0, []⟩)) W hcs (fun i hi W' hb => by
    have he : cs.getD i ⟨0, 0, 0, 0, 0, 0, .slice none 0 0, []⟩ = cs[i]'hi := by simp [List.getD_eq_getElem?_getD, hi]
    simp only [he]
    exact img_blocks1 i (cs[i]'hi) (by have := H300.out _ (List.getElem_mem hi); omega) W' ((hcs.ok _ (List.getElem_mem hi)).below hb))
  have hr : firstE (fun i => compBE (cs.getD i ⟨0, 0, 0, 0, 0, 0, .slice none 0 0, []⟩)) cs.length 0 = R := by rw [← HR.out]; rfl
  rw [hr] at hea
  clear hr HR
  go_wp2_with (go_at_call 106; refine hea.mono ?_; rintro r w1 ⟨rfl, hb1⟩; have hC := hB.trans (hb1.mono (Nat.le_of_lt bN.lt)))
  go_ret
  exact ⟨rfl, hC⟩
end Go.Proofs.Ytgmhhocpdfdplaa
