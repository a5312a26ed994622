/- Sheets: New, Set, Plane, walked. -/
import Derived.Test.YtgmhhocpdfdplaaWindow
import Derived.Deep.MidRow
namespace Go.Proofs.Ytgmhhocpdfdplaa
open Go.RowKit
set_option maxRecDepth 100000
set_option maxHeartbeats 4000000
/-- Cells stored into a block. -/
theorem Blk.cells_set {g : Nat} {t : TypeId} : ∀ (vs : List Value) (o : Nat) (w : World) (cs : List Value), Blk w g cs.toArray t → o + vs.length ≤ cs.length → Blk (w.setCells g o vs) g (cs.take o ++ vs ++ cs.drop (o + vs.length)).toArray t
  | [], o, w, cs, h, _ => by simpa [World.setCells] using h
  | v :: r, o, w, cs, h, hl => by
    simp only [List.length_cons] at hl
    have h1 := h.set o v
    rw [List.setIfInBounds_toArray] at h1
    have ih := Blk.cells_set r (o + 1) _ _ h1 (by simp; omega)
    simp only [World.setCells]
    have e1 : (cs.set o v).take (o + 1) = cs.take o ++ [v] := by
      rw [List.take_add_one, List.take_set_of_le (Nat.le_refl _)]
      simp [show o < cs.length by omega]
    have e2 : (cs.set o v).drop (o + 1 + r.length) = cs.drop (o + (r.length + 1)) := by
      rw [List.drop_set_of_lt (by omega)]
      congr 1
      omega
    rw [e1, e2] at ih
    simpa [List.append_assoc] using ih
theorem setCells_size (b : Nat) : ∀ (vs : List Value) (o : Nat) (w : World), (w.setCells b o vs).heap.size = w.heap.size
  | [], _, _ => rfl
  | v :: r, o, w => by rw [World.setCells, setCells_size]; simp
theorem setCells_chg (b : Nat) : ∀ (vs : List Value) (o : Nat) (w : World), (w.setCells b o vs).os = w.os ∧ (w.setCells b o vs).tape = w.tape ∧ (w.setCells b o vs).output = w.output ∧ ∀ k, k ≠ b → (w.setCells b o vs).heap[k]? = w.heap[k]?
  | [], _, _ => ⟨rfl, rfl, rfl, fun _ _ => rfl⟩
  | v :: r, o, w => by
    obtain ⟨h1, h2, h3, h4⟩ := setCells_chg b r (o + 1) (w.setCell ⟨b, o, none⟩ v)
    exact ⟨h1, h2, h3, fun k hk => (h4 k hk).trans (heap_setCell_other _ _ _ _ hk)⟩
theorem bcells_set {bs : List (List Int)} (h : Right64 bs) (k : Nat) (b : List Int) (hk : k < bs.length) : bcells (bs.set k b) = (bcells bs).take (k * 64) ++ b.map (Value.int .i16) ++ (bcells bs).drop (k * 64 + 64) := by
  have e64 : k * 64 + 64 = (k + 1) * 64 := by omega
  rw [bcells_take h, e64, bcells_drop h]
  have e : bs.set k b = bs.take k ++ (b :: bs.drop (k + 1)) := by rw [List.set_eq_take_append_cons_drop, if_pos hk]
  rw [e, bcells_append]
  simp [bcells]
theorem bcells_zero (z : Nat) : bcells (List.replicate z (List.replicate 64 0)) = List.replicate (z * 64) (.int .i16 0) := by
  induction z with
  | zero => rfl
  | succ z ih =>
    have e : bcells (List.replicate (z + 1) (List.replicate 64 0)) = (List.replicate 64 (0 : Int)).map (Value.int .i16) ++ bcells (List.replicate z (List.replicate 64 0)) := by rw [List.replicate_succ]; rfl
    rw [e, ih, List.map_replicate, List.replicate_append_replicate]
    congr 1
    omega
/-- A block of a row replaced. -/
theorem Row.put {w : World} {lo : Nat} {e : TypeId} {n : Nat} {g : Nat} {cap : Nat} {bs : List (List Int)} (h : Row w lo e 64 (.slice (some ⟨g, 0, none⟩) n cap) n (bcells bs)) (h64 : Right64 bs) (hn : bs.length = n) (k : Nat) (hk : k < n) (b : List Int) (hb : b.length = 64) :
    Row (w.setCells g (k * 64) (b.map (Value.int .i16))) lo e 64 (.slice (some ⟨g, 0, none⟩) n cap) n (bcells (bs.set k b)) := by
  have h64' : Right64 (bs.set k b) := fun x hx => by rcases List.mem_or_eq_of_mem_set hx with hx | rfl; exact h64 x hx; exact hb
  refine ⟨by rw [bcells_len h64', List.length_set, hn], ?_⟩
  rcases h.2 with ⟨h0, _⟩ | ⟨g', cap', cur, h0, h2, h3, h4, h5, h6, h7⟩
  · cases h0
  · cases h0
    have hl : (b.map (Value.int .i16)).length = 64 := by simpa using hb
    have hkn : k * 64 + 64 ≤ n * 64 := by omega
    have hnc : n * 64 ≤ cap * 64 := Nat.mul_le_mul_right _ h4
    have hfit : k * 64 + (b.map (Value.int .i16)).length ≤ cur.toList.length := by rw [hl]; simp; omega
    have hB := Blk.cells_set (g := g) (t := e) (b.map (Value.int .i16)) (k * 64) w cur.toList (by simpa using h3) hfit
    refine .inr ⟨g, cap, _, rfl, h2, hB, h4, h5, ?_, ?_⟩
    · simp only [List.size_toArray, List.length_append, List.length_take, List.length_drop, hl]
      simp only [hl] at hfit
      simp only [Array.length_toList] at *
      omega
    · simp only [hl]
      rw [bcells_set h64 k b (by omega), ← h7]
      simp only [List.take_append, List.take_take, List.length_append, List.length_take, hl, List.drop_take]
      have m1 : min (n * 64) (k * 64) = k * 64 := by omega
      have m2 : min (k * 64) (n * 64) = k * 64 := by omega
      have m3 : min (k * 64) cur.toList.length = k * 64 := by simp at hfit ⊢; omega
      rw [m1, m2, m3, List.take_of_length_le (i := n * 64 - k * 64) (by rw [hl]; omega)]
namespace Pl
/-- The sheet at block b: so many columns and rows, these blocks, in the slice u (over a block of its own). -/
structure Sheet (w : World) (lo b : Nat) (c r : Nat) (u : Value) (bs : List (List Int)) : Prop where
  box : Blk w b #[.int .i64 c, .int .i64 r, u] 180
  row : Row w lo 57 64 u (c * r) (bcells bs)
  h64 : Right64 bs
  len : bs.length = c * r
theorem Sheet.below {w w' : World} {lo b c r : Nat} {u : Value} {bs : List (List Int)} (h : Sheet w lo b c r u bs) (hb : Below w.heap.size w w') : Sheet w' lo b c r u bs := ⟨h.box.below hb h.box.lt, h.row.grow hb, h.h64, h.len⟩
end Pl
theorem made_same (k : Nat) (hk : 0 < k) (x : Value) (n : Nat) : madeCells (List.replicate k x).toArray n = (List.replicate n x).toArray := by
  apply Array.ext
  · simp [size_madeCells]
  · intro i h1 h2
    simp [madeCells, Nat.mod_lt, hk]
theorem run_make_blocks (z : Nat) (hz : z ≤ 16384) (w : World) : (Instr.makeSlice 59 (.int .i64 (z : Int)) (.int .i64 (z : Int))).run Try.prog w = .ok (.slice (some ⟨w.heap.size, 0, none⟩) z z) (w.alloc (.cells (List.replicate (z * 64) (.int .i16 0)).toArray 57)) := by
  obtain ⟨i, hi⟩ : ∃ i, Try.prog.info? 57 = some i := ⟨_, rfl⟩
  have h3 : (Try.prog.info? 57).map (fun i => (i.size, i.bytes)) = some (64, 128) := by kernel_rfl
  have h4 : (Try.prog.info? 57).bind (fun i => i.zero) = some (.agg (ints .i16 (List.replicate 64 0))) := by kernel_rfl
  rw [hi] at h3 h4
  simp only [Option.map_some, Option.some.injEq, Prod.mk.injEq, Option.bind_some] at h3 h4
  have h := run_makeSlice (P := Try.prog) w 59 57 i (.agg (ints .i16 (List.replicate 64 0))) Try.underlying59 hi h4 .i64 .i64 z z (by omega) (by omega) (by rw [h3.1]; simp; omega) (by rw [h3.2]; omega) (by omega)
  rw [h, h3.1]
  simp only [Int.toNat_natCast]
  have e : (Value.agg (ints .i16 (List.replicate 64 0))).cells = (List.replicate 64 (Value.int .i16 0)).toArray := by simp [Value.cells, ints]
  rw [e, made_same 64 (by decide)]
theorem plane_new (c r : Nat) (hs : Pl.sized c r = 0) (w : World) : Calls Try.prog 74 #[.int .i64 c, .int .i64 r] w fun e w' => ∃ b u, e = .returned (.tuple #[.pointer (some ⟨b, 0, none⟩), .int .i64 0]) ∧ Pl.Sheet w' w.heap.size b c r u (List.replicate (c * r) (List.replicate 64 0)) ∧ w.heap.size ≤ b ∧ Below w.heap.size w w' := by
  obtain ⟨h1, h2, h3, h4, h5, h6⟩ := Pl.sized_ok hs
  obtain ⟨z, hz⟩ : ∃ z : Nat, c * r = z := ⟨_, rfl⟩
  have hzi : (c : Int) * (r : Int) = (z : Int) := by rw [← hz]; push_cast; rfl
  rw [hzi] at h5 h6
  have hzw : wrap64 (z : Int) = (z : Int) := IntWalk.wrap64_in _ (by omega)
  have hps := plane_sized c r w
  rw [hs] at hps
  have hmk := fun W => run_make_blocks z (by omega) W
  have HZ := Lib.hid hz
  clear hs hz
  go_enter Try.func74, Try.ntmps74
  go_wp2_with (go_at_call 127; refine hps.mono ?_; rintro e w1 ⟨rfl, rfl⟩)
  go_ret2
  refine ⟨_, _, rfl, ⟨Blk.new' _ _ _ (by simp), ?_, fun x hx => by rw [List.eq_of_mem_replicate hx]; simp, by simp⟩, ?_, ?_⟩
  · rw [HZ.out]
    rw [bcells_zero]
    refine ⟨by simp, .inr ⟨w.heap.size, z, _, rfl, Nat.le_refl _, (Blk.new _ _ _).alloc _, Nat.le_refl _, by simp only [maxLen]; omega, by simp, by simp⟩⟩
  · simp
  · exact ((Below.refl _ w).alloc (Nat.le_refl _) _).alloc (by simp) _
theorem sheet_set_no (lo b c r : Nat) (u : Value) (bs : List (List Int)) (row col : Int) (blk : List Int) (hn : ¬ Pl.isIn c r row col) (w : World) (h : Pl.Sheet w lo b c r u bs) :
    Calls Try.prog 147 #[.pointer (some ⟨b, 0, none⟩), .int .i64 row, .int .i64 col, .agg (ints .i16 blk)] w fun e w' => e = .returned (.bool false) ∧ Below w.heap.size w w' := by
  obtain ⟨bu, cu, rfl⟩ := h.row.len
  have hB1 : Below w.heap.size w (w.alloc (.cells (ints .i16 blk) 57)) := (Below.refl _ _).alloc (Nat.le_refl _) _
  have hb1 := h.box.below hB1 h.box.lt
  have q0 := hb1.cell 0
  have q1 := hb1.cell 1
  have q2 := hb1.cell 2
  go_enter Try.func147, Try.ntmps147
  go_wp2_with (go_at_call 153; refine (plane_place_no c r row col _ hn _).mono ?_; rintro e w2 ⟨rfl, hb2⟩)
  go_ret
  exact ⟨rfl, hB1.trans (hb2.mono hB1.size)⟩
theorem sheet_set (lo b c r : Nat) (u : Value) (bs : List (List Int)) (row col : Nat) (blk : List Int) (hb64 : blk.length = 64) (hr : row < r) (hc : col < c) (hcr : c * r ≤ 16384) (w : World) (h : Pl.Sheet w lo b c r u bs) :
    Calls Try.prog 147 #[.pointer (some ⟨b, 0, none⟩), .int .i64 row, .int .i64 col, .agg (ints .i16 blk)] w fun e w' => e = .returned (.bool true) ∧ Pl.Sheet w' lo b c r u (bs.set (row * c + col) blk) ∧ w.heap.size ≤ w'.heap.size ∧ w'.os = w.os ∧ w'.tape = w.tape ∧ w'.output = w.output ∧ ∀ k, k < w.heap.size → u.ownBlock ≠ some k → w'.heap[k]? = w.heap[k]? := by
  have hkl : row * c + col < c * r := by
    have h1 : (row + 1) * c ≤ r * c := Nat.mul_le_mul_right _ hr
    rw [Nat.add_mul, Nat.one_mul] at h1
    rw [Nat.mul_comm c r]
    omega
  obtain ⟨g, cap, rfl, hlo, hgs, _⟩ := h.row.cells (by omega)
  obtain ⟨z, hz⟩ : ∃ z : Nat, row * c = z := ⟨_, rfl⟩
  have hzi : (row : Int) * (c : Int) = (z : Int) := by rw [← hz]; push_cast; rfl
  rw [hz] at hkl ⊢
  have hin : Pl.isIn c r row col := ⟨by omega, by omega, by omega, by omega⟩
  have hpl := fun W => plane_place_yes c r row col (.slice (some ⟨g, 0, none⟩) (c * r) cap) hin z hzi (IntWalk.wrap64_in _ (by clear hzi; omega)) (IntWalk.wrap64_in _ (by clear hzi; omega)) W
  obtain ⟨N, hN⟩ : ∃ N, N = w.heap.size := ⟨_, rfl⟩
  have HN := Lib.hid hN
  have hbN : b < N := by rw [hN]; exact h.box.lt
  have hgN : g < N := by rw [hN]; exact hgs
  rw [← hN]
  obtain ⟨n, hn⟩ : ∃ n, c * r = n := ⟨_, rfl⟩
  have HS := Lib.hid h
  have hbox := h.box
  have hrow := h.row
  rw [hn] at hkl hpl hbox hrow hcr ⊢
  have HNN := Lib.hid hn
  clear hN hz hn hzi h
  have hk1 : (z : Int) + (col : Int) < (n : Int) := by omega
  have hk0 : (0 : Int) ≤ (z : Int) + (col : Int) := by omega
  have hkn : ((z : Int) + (col : Int)).toNat = z + col := by omega
  go_enter Try.func147, Try.ntmps147
  go_upto_region 1 with fail
  refine wp_world (fun W => Blk W N (ints .i16 blk) 57 ∧ Below N w W) ⟨Blk.new' _ _ _ HN.out, (Below.refl _ _).alloc (by rw [HN.out]; exact Nat.le_refl _) _⟩ ?_
  rintro W0 ⟨b0, hB⟩
  rw [← HN.out]
  have hN0 : N < W0.heap.size := b0.lt
  have hb1 := hbox.below hB hbN
  have q0 := hb1.cell 0
  have q1 := hb1.cell 1
  have q2 := hb1.cell 2
  go_upto_region 5 with (go_at_call 153; refine (hpl _).mono ?_; rintro e w2 ⟨rfl, hb2⟩)
  have b02 := b0.below hb2 b0.lt
  have hB2 := hB.trans (hb2.mono (by omega))
  refine wp_region_mono [0, 1, 2, 3, 4, 5, 6, 7] [8] (fun W => Blk W N (ints .i16 blk) 57 ∧ Below N w W) (fun _ => none) (fun _ => []) (by kernel_rfl) (by kernel_rfl) ⟨b02.drew, hB2.drew⟩ (by intro i s hs; cases hs) ?_
  clear b0 b02 hB hB2 hb2 hb1 q0 q1 q2 hN0
  simp only [pick, List.getD_cons_succ, List.getD_cons_zero, List.zip_cons_cons, List.zip_nil_right]
  (repeat (first | (refine mono_skip (by rfl) ?_; simp only [Act.put, List.setIfInBounds_toArray, List.set_cons_zero, List.set_cons_succ]) | (refine mono_pure (v := ?_) (by rfl) rfl ?_ ?_; rotate_left; (intro wS hS; go_simp; try with_reducible rfl); simp only [Act.put, List.setIfInBounds_toArray, List.set_cons_zero, List.set_cons_succ])))
  refine mono_pure (v := .slice (some ⟨g, 0, none⟩) n cap) (by rfl) rfl (fun w1 hS => by have cy := (hbox.below hS.2 hbN).cell 2; go_simp; try with_reducible rfl) ?_
  simp only [Act.put, List.setIfInBounds_toArray, List.set_cons_zero, List.set_cons_succ]
  (repeat (first | (refine mono_skip (by rfl) ?_; simp only [Act.put, List.setIfInBounds_toArray, List.set_cons_zero, List.set_cons_succ]) | (refine mono_pure (v := ?_) (by rfl) rfl ?_ ?_; rotate_left; (intro wS hS; go_simp; try with_reducible rfl); simp only [Act.put, List.setIfInBounds_toArray, List.set_cons_zero, List.set_cons_succ])))
  refine mono_pure (v := .agg (ints .i16 blk)) (by rfl) rfl (fun w1 hS => run_exec_load_row 57 _ rfl N rfl 57 _ _ hS.1 Try.underlying57 rfl (by rw [ints_size, hb64]; kernel_rfl)) ?_
  simp only [Act.put, List.setIfInBounds_toArray, List.set_cons_zero, List.set_cons_succ]
  (repeat (first | (refine mono_skip (by rfl) ?_; simp only [Act.put, List.setIfInBounds_toArray, List.set_cons_zero, List.set_cons_succ]) | (refine mono_pure (v := ?_) (by rfl) rfl ?_ ?_; rotate_left; (intro wS hS; go_simp; try with_reducible rfl); simp only [Act.put, List.setIfInBounds_toArray, List.set_cons_zero, List.set_cons_succ])))
  refine mono_nil ?_
  rintro W3 ⟨b0, hB⟩ _
  have hth : World.there W3 g ((z + col) * 64) (ints .i16 blk).size := by
    rcases hrow.2 with ⟨h0, _⟩ | ⟨g', cap', cur, h0, h2, h3, h4, h5, h6, h7⟩
    · cases h0
    · cases h0
      have hg3 : Blk W3 g cur 57 := h3.below hB hgN
      intro j hj
      rw [ints_size, hb64] at hj
      have hlt : (z + col) * 64 + j < cur.size := by
        have h1 : (z + col) * 64 + 64 ≤ n * 64 := by omega
        have h2 : n * 64 ≤ cap * 64 := Nat.mul_le_mul_right _ h4
        omega
      exact ⟨by rw [hg3.cell, Array.getElem?_eq_getElem hlt]; rfl, hg3.free _⟩
  go_wp2_with (refine wpList_store_mid rfl 57 _ _ rfl g ((z + col) * 64) (ints .i16 blk) rfl rfl hth (by rw [ints_size, hb64]; kernel_rfl) (ints_one _ _) ?_)
  go_ret
  have hvs : (ints .i16 blk).toList = blk.map (Value.int .i16) := by simp [ints]
  rw [hvs]
  obtain ⟨s1, s2, s3, s4⟩ := setCells_chg g (blk.map (Value.int .i16)) ((z + col) * 64) W3
  have hgb : g ≠ b := hrow.typed hbox (by decide) g rfl
  refine ⟨rfl, ⟨?_, ?_, ?_, ?_⟩, by rw [setCells_size, HN.out]; exact hB.size, s1.trans hB.os, s2.trans hB.tape, s3.trans hB.output, fun k hk hne => (s4 k (fun e => hne (by rw [e]; rfl))).trans (hB.block k hk)⟩
  · exact (s4 b (fun e => hgb e.symm)).trans (hbox.below hB hbN)
  · rw [HNN.out]
    exact Row.put (hrow.below hB (fun k e => by cases e; exact hgN)) HS.out.h64 (HS.out.len.trans HNN.out) (z + col) hkl blk hb64
  · intro x hx
    rcases List.mem_or_eq_of_mem_set hx with hx | rfl
    · exact HS.out.h64 x hx
    · exact hb64
  · rw [List.length_set]; exact HS.out.len
end Go.Proofs.Ytgmhhocpdfdplaa
