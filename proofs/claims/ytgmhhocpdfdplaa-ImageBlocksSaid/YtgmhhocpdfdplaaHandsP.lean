/- Package plane's iterator over a right plane's blocks, as a contract that knows each block's number. -/
import Derived.Test.YtgmhhocpdfdplaaGJ
import Derived.Test.YtgmhhocpdfdplaaRangeW
namespace Go.Proofs.Ytgmhhocpdfdplaa
open Go.RowKit Go.Shelf
attribute [local go_sem] Oper.semAt_some
set_option maxRecDepth 100000
set_option maxHeartbeats 4000000
theorem plane_hands (L M n : Nat) (c r : Nat) (u : Value) (bs : List (List Int)) (h64 : Right64 bs) (hr : Pl.right c r bs.length = true) (Bn : Nat) (w : World) (hM : M ≤ Bn) (hb : Blk w Bn #[.int .i64 c, .int .i64 r, u] 61) (hA : Ar w 64 u bs.length (bcells bs)) :
    Hands n Try.prog 128 #[.pointer (some ⟨Bn, 0, none⟩)] (Pl.encs c bs) (fun pre i _ => pre = List.range i ∧ i < bs.length) (KB2 L M) (fun ys => ys = List.range bs.length) (fun _ => True) w := by
  intro lp J Jx W hW hJ hJx hY h0
  have hb' := hb.below hW hb.lt
  have hA' := hA.below hW
  have hMW : M ≤ W.heap.size := Nat.le_trans hM (Nat.le_trans (Nat.le_of_lt hb.lt) hW.size)
  obtain ⟨bu, cap, rfl, hcap, hcm⟩ := hA.len
  have hsz : 1 ≤ c ∧ bs.length ≤ 16384 := by
    unfold Pl.right at hr
    simp only [Bool.and_eq_true, beq_iff_eq] at hr
    have := Pl.sized_ok hr.1
    omega
  obtain ⟨hc1, hn⟩ := hsz
  refine callsIn_of_wp Try.func128 rfl trivial ?_ rfl
  simp only [Try.ntmps128, List.size_toArray, List.length_cons, List.length_nil, Nat.reduceAdd, Nat.reduceSub, Array.replicate_succ, Array.replicate_zero, List.push_toArray, List.append_toArray, List.nil_append, List.cons_append]
  gi_wp2_with (refine wpListIn_load_row ⟨none, rfl⟩ rfl 61 _ rfl Bn rfl 61 _ _ _ hb' Try.underlying61 rfl (by kernel_rfl) ?_)
  refine ⟨trivial, fun h => (by cases h), ?_⟩
  refine (callsIn_wide.2 (plane_right c r bs.length bu cap W)).mono ?_
  rintro e w2 ⟨rfl, hB2⟩
  rw [hr]
  have hb2 := hb'.below hB2 hb'.lt
  have hA2 := hA'.below hB2
  have q2 := hb2.cell 2
  gi_wp2
  refine ⟨trivial, fun h => (by cases h), ?_⟩
  refine (callsIn_wide.2 (blocks_clone _ _ _ (by omega) w2 hA2 (bcells_one _))).mono ?_
  rintro e w3 ⟨uc, rfl, hR, hB3⟩
  obtain ⟨gc, cc, rfl⟩ := hR.len
  have hb3 := hb2.below hB3 hb2.lt
  have hB := hB2.trans (hB3.mono hB2.size)
  have hRW := hR.down (lo' := W.heap.size) hB2.size
  gi_wp2
  gi_loopw [12] (fun v wr => ∃ i : Nat, v = .int .i64 i ∧ i ≤ bs.length ∧ J (List.range i) wr ∧ Row wr W.heap.size 57 64 (.slice gc bs.length cc) bs.length (bcells bs) ∧ Blk wr Bn #[.int .i64 c, .int .i64 r, .slice bu bs.length cap] 61)
    (fun v wr => bs.length - (intOf v).toNat)
  case atStart =>
    refine ⟨0, rfl, Nat.zero_le _, ?_, hRW, hb3⟩
    exact hJ _ _ _ none h0 ⟨hB.os, hB.tape, hB.output, hB.size, fun k hk _ => hB.block k hk⟩ (fun r e => by cases e)
  case round =>
    obtain ⟨i, rfl, hi, hJi, hRi, hbi⟩ := hrel
    have tb : decide ((i : Int) < (bs.length : Int)) = decide (i < bs.length) := by simp
    by_cases hlt : i < bs.length
    · have tt : decide ((i : Int) < (bs.length : Int)) = true := by simpa using hlt
      obtain ⟨g, cap2, hu, hgl, hgs, _⟩ := hRi.cells (by omega)
      cases hu
      have hx0 : (0 : Int) ≤ (i : Int) := by omega
      have hx1 : (i : Int) < (bs.length : Int) := by omega
      have hsucc : List.range (i + 1) = List.range i ++ [i] := List.range_succ
      have hc0 : ¬ (c : Int) = 0 := by omega
      have hx := Pl.blk_get hlt
      have hx64 := Pl.blk_len h64 i
      have henc : Pl.encs c bs i = #[.agg #[.int .i64 ((i : Int) / (c : Int)), .int .i64 ((i : Int) % (c : Int)), .int .i64 1, .int .i64 1], .agg (ints .i16 (Pl.blk bs i))] := rfl
      have HE := Lib.hid henc
      clear henc
      generalize Pl.blk bs i = x at hx hx64 HE
      obtain ⟨S, hS⟩ : ∃ S, S = wr.heap.size := ⟨_, rfl⟩
      have hRa := hRi.ar
      have hBa : Below wr.heap.size wr ((wr.alloc (.cells (ints .i16 (List.replicate 64 0)) 57)).setRow S (ints .i16 x)) := Below.setRow ((Below.refl _ _).alloc (Nat.le_refl _) _) (by rw [hS]; exact Nat.le_refl _) _
      have bZ : Blk (wr.alloc (.cells (ints .i16 (List.replicate 64 0)) 57)) S (ints .i16 (List.replicate 64 0)) 57 := Blk.new' _ _ _ hS
      have bX := bZ.row (ints .i16 x)
      have hRb := hRi.grow hBa
      have hbb := hbi.below hBa hbi.lt
      gi_wp2_with (first | (refine wpListIn_runTo ⟨none, rfl⟩ rfl (by intro c h; cases h) _ _ (ar_loadx hRa h64 i hlt x hx _ rfl (by show _ = Value.pointer (some (Addr.add ⟨g, 0, none⟩ (i * 64))); rw [Addr.add_mid, Nat.zero_add]; rfl)) ?_) | (refine wpListIn_store_row ⟨none, rfl⟩ rfl 57 _ _ rfl wr.heap.size _ rfl rfl 57 _ (hS ▸ bZ) (by rw [ints_size, hx64]; kernel_rfl) (by rw [ints_size, ints_size, hx64]; rfl) (ints_one _ _) ?_))
      refine wpIn_world (fun W' => J (List.range i) W' ∧ Row W' W.heap.size 57 64 (.slice (some ⟨g, 0, none⟩) bs.length cc) bs.length (bcells bs) ∧ Blk W' Bn #[.int .i64 c, .int .i64 r, .slice bu bs.length cap] 61 ∧ Blk W' S (ints .i16 x) 57)
        (by subst hS; exact ⟨hJ _ _ _ none hJi ⟨hBa.os, hBa.tape, hBa.output, hBa.size, fun k hk _ => hBa.block k hk⟩ (fun r e => by cases e), hRb, hbb, bX⟩) ?_
      rw [← hS]
      clear hBa bZ bX hRb hbb hRa hRi hJi hbi
      rintro W4 ⟨hJ4, hR4, hb4, hX4⟩
      refine wpIn_region_mono none [0, 1, 2, 3, 4, 5, 6, 7, 8, 9, 10] [11, 12] (by kernel_rfl) (by kernel_rfl) (by kernel_rfl) ?_
      simp only [pick, List.getD_cons_succ, List.getD_cons_zero, List.zip_cons_cons, List.zip_nil_right]
      (repeat (first | (refine mono_skip (by rfl) ?_; simp only [Act.put, List.setIfInBounds_toArray, List.set_cons_zero, List.set_cons_succ]) | (refine mono_pure (v := ?_) (by rfl) rfl ?_ ?_; rotate_left; (intro wS hS; go_simp; try with_reducible rfl); simp only [Act.put, List.setIfInBounds_toArray, List.set_cons_zero, List.set_cons_succ])))
      refine mono_pure (v := .int .i64 c) (by rfl) rfl (fun w1 hS => by subst hS; have cy := hb4.cell 0; go_simp; try with_reducible rfl) ?_
      simp only [Act.put, List.setIfInBounds_toArray, List.set_cons_zero, List.set_cons_succ]
      (repeat (first | (refine mono_skip (by rfl) ?_; simp only [Act.put, List.setIfInBounds_toArray, List.set_cons_zero, List.set_cons_succ]) | (refine mono_pure (v := ?_) (by rfl) rfl ?_ ?_; rotate_left; (intro wS hS; go_simp; try with_reducible rfl); simp only [Act.put, List.setIfInBounds_toArray, List.set_cons_zero, List.set_cons_succ])))
      have hcN : ¬ c = 0 := by omega
      have hq1 : IntKind.i64.wrap ((i : Int) / (c : Int)) = (i : Int) / (c : Int) := by
        have := IntWalk.i64_quo i c (by omega)
        rwa [Int.tdiv_eq_ediv_of_nonneg (by omega)] at this
      refine mono_pure (v := .int .i64 ((i / c : Nat) : Int)) (by rfl) rfl (fun w1 hS => by subst hS; go_simp) ?_
      simp only [Act.put, List.setIfInBounds_toArray, List.set_cons_zero, List.set_cons_succ]
      (repeat (first | (refine mono_skip (by rfl) ?_; simp only [Act.put, List.setIfInBounds_toArray, List.set_cons_zero, List.set_cons_succ]) | (refine mono_pure (v := ?_) (by rfl) rfl ?_ ?_; rotate_left; (intro wS hS; go_simp; try with_reducible rfl); simp only [Act.put, List.setIfInBounds_toArray, List.set_cons_zero, List.set_cons_succ])))
      refine mono_pure (v := .int .i64 c) (by rfl) rfl (fun w1 hS => by subst hS; have cy := hb4.cell 0; go_simp; try with_reducible rfl) ?_
      simp only [Act.put, List.setIfInBounds_toArray, List.set_cons_zero, List.set_cons_succ]
      (repeat (first | (refine mono_skip (by rfl) ?_; simp only [Act.put, List.setIfInBounds_toArray, List.set_cons_zero, List.set_cons_succ]) | (refine mono_pure (v := ?_) (by rfl) rfl ?_ ?_; rotate_left; (intro wS hS; go_simp; try with_reducible rfl); simp only [Act.put, List.setIfInBounds_toArray, List.set_cons_zero, List.set_cons_succ])))
      refine mono_pure (v := .agg (ints .i16 x)) (by rfl) rfl (fun w1 hS' => by subst hS'; exact run_exec_load_row 57 _ rfl S rfl 57 _ _ hX4.drew Try.underlying57 rfl (by rw [ints_size, hx64]; kernel_rfl)) ?_
      simp only [Act.put, List.setIfInBounds_toArray, List.set_cons_zero, List.set_cons_succ]
      refine mono_nil ?_
      obtain ⟨fn, tmps, assign, body, hy, hRd⟩ := hY (List.range i) i W4.drew
        (hJ _ _ _ none hJ4 ⟨rfl, rfl, rfl, Nat.le_refl _, fun k hk _ => rfl⟩ (fun r e => by cases e)) ⟨rfl, hlt⟩
      rw [HE.out] at hy
      gi_wp2
      simp only [hy, Oper.uponIn_round]
      refine ⟨fun h => (by cases h), hRd.mono ?_⟩
      rintro e W5 (⟨rfl, hJ5, hk5, -⟩ | ⟨rfl, hJx5, -⟩)
      · have hR5 := hR4.grow (Below.refl _ _).drew
        gi_wp2
        go_roundw
        case rel =>
          refine ⟨i + 1, rfl, hlt, by rw [hsucc]; exact hJ5, hR5.keepC hk5.c (by omega), hk5.c.blk hb4.drew hM⟩
        case measure =>
          simp only [intOf]
          omega
      · gi_wp2
        refine bodyPost_ret (results_none rfl _ _ _) rfl ?_
        exact ⟨⟨_, rfl⟩, .inr ⟨_, trivial, hJx5⟩⟩
    · have tf : decide ((i : Int) < (bs.length : Int)) = false := by simpa using hlt
      gi_wp2
      go_end0
      obtain rfl : i = bs.length := by omega
      exact ⟨⟨_, rfl⟩, .inl ⟨_, rfl, hJi⟩⟩
end Go.Proofs.Ytgmhhocpdfdplaa
