/- Package plane's Moved at the law's 'turned', walked. -/
import Derived.Test.YtpjocfcemjdneaaPlanePaintsLaw
import Derived.Test.YtpjocfcemjdneaaSheetLaw
namespace Go.Proofs.Ytpjocfcemjdneaa
open Go.RowKit
set_option maxRecDepth 100000
set_option maxHeartbeats 8000000
theorem law_turned (a b : Int) (w : World) : Calls Try.prog 29 #[.int .i64 a, .int .i64 b] w fun e w' => e = .returned (.tuple #[.int .i64 b, .int .i64 a]) ∧ w = w' := by
  go_enter Try.func29, Try.ntmps29
  go_wp2_with fail
  go_ret2
  exact ⟨rfl, rfl⟩
theorem plane_moved_bad (c r : Int) (bu : Option Addr) (n cap : Nat) (cols rows : Int) (f : Value) (hr : Pl.right c r n = false) (w : World) :
    Calls Try.prog 28 #[.agg #[.int .i64 c, .int .i64 r, .slice bu n cap], .int .i64 cols, .int .i64 rows, f] w fun e w' => e = .returned (.tuple #[.agg #[.int .i64 0, .int .i64 0, .slice none 0 0], .int .i64 1]) ∧ Below w.heap.size w w' := by
  obtain ⟨N, hN⟩ : ∃ N, N = w.heap.size := ⟨_, rfl⟩
  have HN := Lib.hid hN
  rw [← hN]
  clear hN
  have hof := fun W => plane_of_no c r bu n cap hr W
  clear hr
  go_enter Try.func28, Try.ntmps28
  go_upto_region 1 with fail
  refine wp_world (fun W => (Blk W N #[.int .i64 c, .int .i64 r, .slice bu n cap] 24 ∧ Blk W (N + 1) #[.int .i64 0, .int .i64 0, .slice none 0 0] 24) ∧ Below N w W) ⟨⟨(Blk.new' _ _ _ HN.out).alloc _, Blk.new' _ _ _ (by simp [HN.out])⟩, ((Below.refl _ _).alloc (by rw [HN.out]; exact Nat.le_refl _) _).alloc (by rw [HN.out]; simp) _⟩ ?_
  rintro W0 ⟨⟨b0, b1⟩, hB⟩
  rw [← HN.out]
  have hN0 := b0.lt
  go_wp2_with (first
    | (refine wpList_load_row rfl 24 _ rfl N rfl 24 _ _ _ b0 Try.underlying24 rfl (by kernel_rfl) ?_)
    | (go_at_call 21; refine (hof _).mono ?_; rintro e w1 ⟨rfl, hb⟩; have b21 := b1.below hb b1.lt; have hB1 := hB.trans (hb.mono (by omega)))
    | (refine wpList_store_row rfl 24 _ _ rfl (N+1) _ rfl rfl 24 _ b21 (by kernel_rfl) rfl (by simp [Value.oneCell']) ?_))
  refine bodyPost_ret (results_row_tmp rfl _ _ (N + 1) 24 _ _ rfl (b21.row _) Try.underlying24 rfl (by kernel_rfl)) rfl ?_
  exact ⟨rfl, Below.setRow hB1 (by omega) _⟩
theorem plane_moved_size (c r : Nat) (u : Value) (bs : List (List Int)) (h64 : Right64 bs) (hr : Pl.right c r bs.length = true) (hn : bs.length = c * r) (cols rows : Int) (f : Value) (s : Int) (hs : Pl.sized cols rows = s) (h0 : s ≠ 0) (w : World) (hA : Ar w 64 u bs.length (bcells bs)) :
    Calls Try.prog 28 #[.agg #[.int .i64 c, .int .i64 r, u], .int .i64 cols, .int .i64 rows, f] w fun e w' => e = .returned (.tuple #[.agg #[.int .i64 0, .int .i64 0, .slice none 0 0], .int .i64 s]) ∧ Below w.heap.size w w' := by
  obtain ⟨bu, cap, rfl, -, -⟩ := hA.len
  obtain ⟨N, hN⟩ : ∃ N, N = w.heap.size := ⟨_, rfl⟩
  have HN := Lib.hid hN
  rw [← hN]
  clear hN
  have hof := fun W hA => plane_of c r (.slice bu bs.length cap) bs h64 hr hn W hA
  have hnew := fun W => plane_new_no cols rows s hs h0 W
  have t0 : decide (s = 0) = false := by simpa using h0
  clear hr hn hs
  go_enter Try.func28, Try.ntmps28
  go_upto_region 1 with fail
  refine wp_world (fun W => (Blk W N #[.int .i64 c, .int .i64 r, .slice bu bs.length cap] 24 ∧ Blk W (N + 1) #[.int .i64 0, .int .i64 0, .slice none 0 0] 24) ∧ Below N w W) ⟨⟨(Blk.new' _ _ _ HN.out).alloc _, Blk.new' _ _ _ (by simp [HN.out])⟩, ((Below.refl _ _).alloc (by rw [HN.out]; exact Nat.le_refl _) _).alloc (by rw [HN.out]; simp) _⟩ ?_
  rintro W0 ⟨⟨b0, b1⟩, hB⟩
  rw [← HN.out]
  have hN0 := b0.lt
  have hof := hof W0 (hA.below (by rw [← HN.out]; exact hB))
  go_wp2_with (first
    | (refine wpList_load_row rfl 24 _ rfl N rfl 24 _ _ _ b0 Try.underlying24 rfl (by kernel_rfl) ?_)
    | (go_at_call 21; refine hof.mono ?_; rintro e w1 ⟨bb, vv, rfl, -, -, hb⟩; have b21 := b1.below hb b1.lt; have hB1 := hB.trans (hb.mono (by omega)))
    | (go_at_call 16; refine (hnew _).mono ?_; rintro e w2 ⟨rfl, rfl⟩)
    | (refine wpList_store_row rfl 24 _ _ rfl (N+1) _ rfl rfl 24 _ b21 (by kernel_rfl) rfl (by simp [Value.oneCell']) ?_))
  refine bodyPost_ret (results_row_tmp rfl _ _ (N + 1) 24 _ _ rfl (b21.row _) Try.underlying24 rfl (by kernel_rfl)) rfl ?_
  exact ⟨rfl, Below.setRow hB1 (by omega) _⟩
namespace Pl
/-- Blocks moved: that of row i / k, column i % k is the one of row i % k, column i / k, of c columns. -/
def trn (bs : List (List Int)) (c k n : Nat) : List (List Int) := (List.range n).map fun i => blk bs (i % k * c + i / k)
theorem trn_len (bs : List (List Int)) (c k n : Nat) : (trn bs c k n).length = n := by simp [trn]
theorem trn_right {bs : List (List Int)} (h : Right64 bs) (c k n : Nat) : Right64 (trn bs c k n) := by
  intro x hx
  simp only [trn, List.mem_map] at hx
  obtain ⟨j, _, rfl⟩ := hx
  exact blk_len h _
theorem trn_blk (bs : List (List Int)) (c k : Nat) {n i : Nat} (hi : i < n) : blk (trn bs c k n) i = blk bs (i % k * c + i / k) := by
  unfold trn
  rw [← blk_eq (by simpa using hi)]
  simp
theorem trn_eq {L bs : List (List Int)} {c k n : Nat} (hl : L.length = n) (h : ∀ i, i < n → blk L i = blk bs (i % k * c + i / k)) : L = trn bs c k n := by
  apply List.ext_getElem
  · rw [hl, trn_len]
  · intro i h1 h2
    rw [blk_eq h1, blk_eq h2, trn_blk _ _ _ (by omega), h i (by omega)]
end Pl
theorem sheet_set_i (lo b c r : Nat) (u : Value) (bs : List (List Int)) (i : Nat) (x : List Int) (hx : x.length = 64) (hi : i < c * r) (hcr : c * r ≤ 16384) (w : World) (h : Pl.Sheet w lo b c r u bs) :
    Calls Try.prog 18 #[.pointer (some ⟨b, 0, none⟩), .int .i64 ((i : Int) / (c : Int)), .int .i64 ((i : Int) % (c : Int)), .agg (ints .i16 x)] w fun e w' => e = .returned (.bool true) ∧ Pl.Sheet w' lo b c r u (bs.set i x) ∧ w.heap.size ≤ w'.heap.size ∧ w'.os = w.os ∧ w'.tape = w.tape ∧ w'.output = w.output ∧ ∀ k, k < w.heap.size → u.ownBlock ≠ some k → w'.heap[k]? = w.heap[k]? := by
  have hc : 0 < c := Nat.pos_of_ne_zero fun e => by rw [e, Nat.zero_mul] at hi; omega
  have h1 : i / c < r := Nat.div_lt_of_lt_mul hi
  have h2 : i % c < c := Nat.mod_lt _ hc
  have h3 : i / c * c + i % c = i := by have := Nat.div_add_mod i c; rw [Nat.mul_comm] at this; exact this
  have h4 := sheet_set lo b c r u bs (i / c) (i % c) x hx h1 h2 hcr w h
  rw [h3, Int.natCast_ediv, Int.natCast_emod] at h4
  exact h4
namespace Pl
structure MB (N M bw c r : Nat) (vw : Value) (bs : List (List Int)) (bo cols rows : Nat) (vo : Value) (O : List (List Int)) (w W : World) : Prop where
  bO : Blk W (N + 1) #[.int .i64 0, .int .i64 0, .slice none 0 0] 24
  sp : Sheet W N bw c r vw bs
  so : Sheet W M bo cols rows vo O
  hB : Below N w W
theorem MB.below {N M bw c r : Nat} {vw : Value} {bs : List (List Int)} {bo cols rows : Nat} {vo : Value} {O : List (List Int)} {w W W' : World} (h : MB N M bw c r vw bs bo cols rows vo O w W) (hb : Below W.heap.size W W') : MB N M bw c r vw bs bo cols rows vo O w W' :=
  ⟨h.bO.below hb h.bO.lt, h.sp.below hb, h.so.below hb, h.hB.trans (hb.mono (by have := h.bO.lt; omega))⟩
theorem MB.setRow {N M bw c r : Nat} {vw : Value} {bs : List (List Int)} {bo cols rows : Nat} {vo : Value} {O : List (List Int)} {w W0 W : World} {k : Nat} (h : MB N M bw c r vw bs bo cols rows vo O w W) (h0 : MB N M bw c r vw bs bo cols rows vo O w W0) (hk : W0.heap.size ≤ k) (ds : Array Value) : MB N M bw c r vw bs bo cols rows vo O w (W.setRow k ds) :=
  ⟨h.bO.rowOther _ _ (by have := h0.bO.lt; omega), Sheet.setRowN h.sp (by have := h0.sp.box.lt; omega) (fun g hg => by have := (h0.sp.row.lt g hg).2; omega) _, Sheet.setRowN h.so (by have := h0.so.box.lt; omega) (fun g hg => by have := (h0.so.row.lt g hg).2; omega) _, Below.setRow h.hB (by have := h0.bO.lt; omega) _⟩
end Pl
theorem plane_moved (c r cols rows : Nat) (u : Value) (bs : List (List Int)) (h64 : Right64 bs) (hr : Pl.right c r bs.length = true) (hn : bs.length = c * r) (hs : Pl.sized cols rows = 0) (w : World) (hA : Ar w 64 u bs.length (bcells bs)) :
    Calls Try.prog 28 #[.agg #[.int .i64 c, .int .i64 r, u], .int .i64 cols, .int .i64 rows, .func (.func 29) #[] #[]] w fun e w' => Below w.heap.size w w' ∧
      (cols ≤ r ∧ rows ≤ c → ∃ v, e = .returned (.tuple #[.agg #[.int .i64 cols, .int .i64 rows, v], .int .i64 0]) ∧ Row w' w.heap.size 34 64 v (cols * rows) (bcells (Pl.trn bs c cols (cols * rows)))) ∧
      (¬ (cols ≤ r ∧ rows ≤ c) → e = .returned (.tuple #[.agg #[.int .i64 0, .int .i64 0, .slice none 0 0], .int .i64 14])) := by
  obtain ⟨bu, cap, rfl, -, -⟩ := hA.len
  obtain ⟨N, hN⟩ : ∃ N, N = w.heap.size := ⟨_, rfl⟩
  have HN := Lib.hid hN
  rw [← hN]
  clear hN
  obtain ⟨j1, j2, j3, j4, j5, j6⟩ := Pl.sized_ok hs
  have hcr : c * r ≤ 16384 := by
    rw [← hn]
    exact (Pl.right_nat hr).2.2.2.2.2
  obtain ⟨z, hz⟩ : ∃ z : Nat, cols * rows = z := ⟨_, rfl⟩
  have hzi : (cols : Int) * (rows : Int) = (z : Int) := by rw [← hz]; push_cast; rfl
  rw [hzi] at j5 j6
  have hzw : wrap64 (z : Int) = (z : Int) := IntWalk.wrap64_in _ (by clear hzi hz hs hr hn; omega)
  have hof := fun W hA => plane_of c r (.slice bu bs.length cap) bs h64 hr hn W hA
  have hnew := fun W => plane_new cols rows hs W
  have HZ := Lib.hid hz
  have HCR := Lib.hid hcr
  clear hr hn hs hz hcr
  go_enter Try.func28, Try.ntmps28
  go_upto_region 1 with fail
  refine wp_world (fun W => (Blk W N #[.int .i64 c, .int .i64 r, .slice bu bs.length cap] 24 ∧ Blk W (N + 1) #[.int .i64 0, .int .i64 0, .slice none 0 0] 24) ∧ Below N w W) ⟨⟨(Blk.new' _ _ _ HN.out).alloc _, Blk.new' _ _ _ (by simp [HN.out])⟩, ((Below.refl _ _).alloc (by rw [HN.out]; exact Nat.le_refl _) _).alloc (by rw [HN.out]; simp) _⟩ ?_
  rintro W0 ⟨⟨b0, b1⟩, hB⟩
  rw [← HN.out]
  have hN0 := b0.lt
  have hof := hof W0 (hA.below (by rw [← HN.out]; exact hB))
  go_upto_region 7 with (first
    | (refine wpList_load_row rfl 24 _ rfl N rfl 24 _ _ _ b0 Try.underlying24 rfl (by kernel_rfl) ?_)
    | (go_at_call 21; refine hof.mono ?_; rintro e w1 ⟨bw, vw, rfl, hSw, hbw, hb⟩)
    | (go_at_call 16; refine (hnew _).mono ?_; rintro e w2 ⟨bo, vo, rfl, hSo, hbo, hb2⟩))
  obtain ⟨M, hM⟩ : ∃ M, M = w1.heap.size := ⟨_, rfl⟩
  rw [← hM] at hSo hbo
  have hbM : bw < M := by rw [hM]; exact hSw.box.lt
  have huM : ∀ g, vw.ownBlock = some g → g < M := fun g hg => by rw [hM]; exact (hSw.row.lt g hg).2
  have hNM : N + 1 < M := by rw [hM]; exact (b1.below hb b1.lt).lt
  have hMB : Pl.MB N M bw c r vw bs bo cols rows vo (List.replicate (cols * rows) (List.replicate 64 0)) w w2 :=
    ⟨(b1.below hb b1.lt).below hb2 (b1.below hb b1.lt).lt, Sheet.low (hSw.below hb2) (by omega), hSo, (hB.trans (hb.mono (by omega))).trans (hb2.mono (by omega))⟩
  refine wp_world (fun W => Pl.MB N M bw c r vw bs bo cols rows vo (List.replicate (cols * rows) (List.replicate 64 0)) w W) hMB ?_
  clear hMB hM hSo hSw hb hb2 hB b0 b1 hN0 hof hnew hbw hbo
  rintro W1 hMB
  go_wp2_with fail
  go_loopw [38] (fun i W => ∃ (k : Nat) (O : List (List Int)), k ≤ z ∧ i = .int .i64 k ∧ O.length = z ∧ (∀ j, j < k → (j % cols < r ∧ j / cols < c) ∧ Pl.blk O j = Pl.blk bs (j % cols * c + j / cols)) ∧ Pl.MB N M bw c r vw bs bo cols rows vo O w W) (fun i _ => z - (intOf i).toNat)
  case atStart => exact ⟨0, _, Nat.zero_le _, rfl, by simpa using HZ.out, fun j hj => absurd hj (by omega), hMB⟩
  case round =>
    clear hMB hzi hzw
    obtain ⟨k, O, hk, rfl, hOl, hO, hMB⟩ := hrel
    by_cases hlt : k < z
    · have tk : decide (k < z) = true := by simpa using hlt
      go_upto_region 10 with fail
      have hcN : ¬ cols = 0 := by omega
      have hq1 : IntKind.i64.wrap ((k : Int) / (cols : Int)) = (k : Int) / (cols : Int) := by
        have := IntWalk.i64_quo k cols (by omega)
        rwa [Int.tdiv_eq_ediv_of_nonneg (by omega)] at this
      have hkr : k / cols < rows := Nat.div_lt_of_lt_mul (by rw [HZ.out]; exact hlt)
      have hkc : k % cols < cols := Nat.mod_lt _ (by omega)
      have hat : ∃ (xv : List Int) (ok : Bool), xv.length = 64 ∧ (∀ W, Pl.Sheet W N bw c r vw bs → Calls Try.prog 19 #[.pointer (some ⟨bw, 0, none⟩), .int .i64 ((k : Int) % (cols : Int)), .int .i64 ((k : Int) / (cols : Int))] W fun e w' => e = .returned (.tuple #[.agg (ints .i16 xv), .bool ok]) ∧ Below W.heap.size W w') ∧ (ok = true → (k % cols < r ∧ k / cols < c) ∧ xv = Pl.blk bs (k % cols * c + k / cols)) ∧ (ok = false → ¬ (cols ≤ r ∧ rows ≤ c)) := by
        by_cases hin : k % cols < r ∧ k / cols < c
        · refine ⟨_, true, Pl.blk_len h64 (k % cols * c + k / cols), fun W hW => ?_, fun _ => ⟨hin, rfl⟩, fun h => (by cases h)⟩
          have := sheet_at N bw c r vw bs (k % cols) (k / cols) hin.1 hin.2 HCR.out W hW
          rw [Int.natCast_ediv, Int.natCast_emod] at this
          exact this
        · refine ⟨List.replicate 64 0, false, by simp, fun W hW => ?_, fun h => (by cases h), fun _ h => hin ⟨by omega, by omega⟩⟩
          refine sheet_at_no N bw c r vw bs _ _ ?_ W hW
          rw [← Int.natCast_ediv, ← Int.natCast_emod]
          unfold Pl.isIn
          omega
      obtain ⟨xv, ok, hx64, hat, hok, hno⟩ := hat
      clear hkc
      have hGm : ∀ W W', Pl.MB N M bw c r vw bs bo cols rows vo O w W → Below W.heap.size W W' → Pl.MB N M bw c r vw bs bo cols rows vo O w W' := fun W W' h hb => h.below hb
      refine wp_region_late [14] [0, 1, 2, 3, 4, 5, 6, 7, 8, 9, 10, 11, 12, 13, 14, 15] [16, 17] (fun W => Pl.MB N M bw c r vw bs bo cols rows vo O w W)
        (fun | 8 => some (sFix (.tuple #[.int .i64 ((k : Int) % (cols : Int)), .int .i64 ((k : Int) / (cols : Int))])) | 11 => some (sFix (.tuple #[.agg (ints .i16 xv), .bool ok])) | 15 => some (sNew (ints .i16 (List.replicate 64 0)) 34) | _ => none)
        (fun _ => []) (by kernel_rfl) (by kernel_rfl) (by intro j hj; simp at hj; subst hj; rfl) (hGm _ _ hMB (Below.refl _ _).drew) ?_ ?_
      · intro i s hs
        match i with
        | 8 => cases hs; exact fun _ _ => sFix_mono _ _ _
        | 11 => cases hs; exact fun _ _ => sFix_mono _ _ _
        | 15 => cases hs; exact fun _ _ => sNew_mono _ _ _ _
      simp only [pick, List.getD_cons_succ, List.getD_cons_zero, List.zip_cons_cons, List.zip_nil_right]
      (first | (refine mono_skip (by rfl) ?_; simp only [Act.put, List.setIfInBounds_toArray, List.set_cons_zero, List.set_cons_succ]) | (refine mono_pure (v := ?_) (by rfl) rfl ?_ ?_; rotate_left; (intro wS hS; go_simp; try with_reducible rfl); simp only [Act.put, List.setIfInBounds_toArray, List.set_cons_zero, List.set_cons_succ]))
      (first | (refine mono_skip (by rfl) ?_; simp only [Act.put, List.setIfInBounds_toArray, List.set_cons_zero, List.set_cons_succ]) | (refine mono_pure (v := ?_) (by rfl) rfl ?_ ?_; rotate_left; (intro wS hS; go_simp; try with_reducible rfl); simp only [Act.put, List.setIfInBounds_toArray, List.set_cons_zero, List.set_cons_succ]))
      (first | (refine mono_skip (by rfl) ?_; simp only [Act.put, List.setIfInBounds_toArray, List.set_cons_zero, List.set_cons_succ]) | (refine mono_pure (v := ?_) (by rfl) rfl ?_ ?_; rotate_left; (intro wS hS; go_simp; try with_reducible rfl); simp only [Act.put, List.setIfInBounds_toArray, List.set_cons_zero, List.set_cons_succ]))
      (first | (refine mono_skip (by rfl) ?_; simp only [Act.put, List.setIfInBounds_toArray, List.set_cons_zero, List.set_cons_succ]) | (refine mono_pure (v := ?_) (by rfl) rfl ?_ ?_; rotate_left; (intro wS hS; go_simp; try with_reducible rfl); simp only [Act.put, List.setIfInBounds_toArray, List.set_cons_zero, List.set_cons_succ]))
      refine mono_pure (v := .int .i64 ((k : Int) / (cols : Int))) (by rfl) rfl (fun w1 hS => by go_simp) ?_
      simp only [Act.put, List.setIfInBounds_toArray, List.set_cons_zero, List.set_cons_succ]
      (first | (refine mono_skip (by rfl) ?_; simp only [Act.put, List.setIfInBounds_toArray, List.set_cons_zero, List.set_cons_succ]) | (refine mono_pure (v := ?_) (by rfl) rfl ?_ ?_; rotate_left; (intro wS hS; go_simp; try with_reducible rfl); simp only [Act.put, List.setIfInBounds_toArray, List.set_cons_zero, List.set_cons_succ]))
      (first | (refine mono_skip (by rfl) ?_; simp only [Act.put, List.setIfInBounds_toArray, List.set_cons_zero, List.set_cons_succ]) | (refine mono_pure (v := ?_) (by rfl) rfl ?_ ?_; rotate_left; (intro wS hS; go_simp; try with_reducible rfl); simp only [Act.put, List.setIfInBounds_toArray, List.set_cons_zero, List.set_cons_succ]))
      refine mono_pure (v := .int .i64 ((k : Int) % (cols : Int))) (by rfl) rfl (fun w1 hS => by go_simp; exact Int.tmod_eq_emod_of_nonneg (by omega)) ?_
      simp only [Act.put, List.setIfInBounds_toArray, List.set_cons_zero, List.set_cons_succ]
      refine mono_fix (.tuple #[.int .i64 ((k : Int) % (cols : Int)), .int .i64 ((k : Int) / (cols : Int))]) (by rfl) rfl hGm (by intro w hG; go_simp; first | done | exact ⟨rfl, rfl⟩) (fun w1 hG hH => (law_turned _ _ w1).mono fun e w' hh => ⟨hh.1, hh.2 ▸ Below.refl _ _⟩) ?_
      simp only [Act.put, List.setIfInBounds_toArray, List.set_cons_zero, List.set_cons_succ]
      (repeat (first | (refine mono_skip (by rfl) ?_; simp only [Act.put, List.setIfInBounds_toArray, List.set_cons_zero, List.set_cons_succ]) | (refine mono_pure (v := ?_) (by rfl) rfl ?_ ?_; rotate_left; (intro wS hS; go_simp; try with_reducible rfl); simp only [Act.put, List.setIfInBounds_toArray, List.set_cons_zero, List.set_cons_succ])))
      refine mono_fix (.tuple #[.agg (ints .i16 xv), .bool ok]) (by rfl) rfl hGm (by intro w hG; go_simp; first | done | exact ⟨rfl, rfl⟩) (fun w1 hG hH => hat w1 hG.sp) ?_
      simp only [Act.put, List.setIfInBounds_toArray, List.set_cons_zero, List.set_cons_succ]
      (repeat (first | (refine mono_skip (by rfl) ?_; simp only [Act.put, List.setIfInBounds_toArray, List.set_cons_zero, List.set_cons_succ]) | (refine mono_pure (v := ?_) (by rfl) rfl ?_ ?_; rotate_left; (intro wS hS; go_simp; try with_reducible rfl); simp only [Act.put, List.setIfInBounds_toArray, List.set_cons_zero, List.set_cons_succ])))
      refine mono_alloc (ints .i16 (List.replicate 64 0)) 34 (by rfl) rfl hGm (fun w => run_alloc_blk w rfl) ?_
      intro gx
      simp only [Act.put, List.setIfInBounds_toArray, List.set_cons_zero, List.set_cons_succ]
      refine mono_nil ?_
      rintro w3 hG ⟨_, I, hI1, _⟩
      obtain ⟨hg0, hg1, hg2, g', hge, hg3, -, hgb⟩ := hI1 15 _ (upd_self _ _ _)
      obtain rfl : gx = g' := by simpa using hge
      have hlo := Nat.le_trans hg0 hg3
      go_wp2_with (refine wpList_store_rowTo rfl 34 _ _ rfl rfl gx (ints .i16 xv) rfl rfl 34 (ints .i16 (List.replicate 64 0)) hgb (by rw [ints_size, hx64]; kernel_rfl) (by rw [ints_size, ints_size, hx64]; rfl) (ints_one _ _) ?_)
      refine onlyN_intro ?_
      go_upto_region 11 with fail
      have hG1 := hG.setRow hMB hlo (ints .i16 xv)
      have hbx := hgb.row (ints .i16 xv)
      have hvg : ∀ g, vo.ownBlock = some g → ¬ g = gx := fun g hg => by have := (hMB.so.row.lt g hg).2; omega
      refine wp_world (fun W => Pl.MB N M bw c r vw bs bo cols rows vo O w W ∧ Blk W gx (ints .i16 xv) 34) ⟨hG1, hbx⟩ ?_
      clear hG1 hbx hG hgb hI1 hGm hMB hg0 hg1 hg2 hg3 hlo hat
      rintro W9 ⟨hMB, hbx⟩
      cases ok with
      | false =>
        have HNO := Lib.hid (hno rfl)
        clear hq1 hno hok
        have hNz := hMB.bO.lt
        go_wp2_with (refine wpList_store_row rfl 24 _ _ rfl (N+1) _ rfl rfl 24 _ hMB.bO (by kernel_rfl) rfl (by simp [Value.oneCell']) ?_)
        refine bodyPost_ret (results_row_tmp rfl _ _ (N + 1) 24 _ _ rfl (hMB.bO.row _) Try.underlying24 rfl (by kernel_rfl)) rfl ?_
        exact ⟨Below.setRow hMB.hB (by omega) _, fun h => absurd h HNO.out, fun _ => rfl⟩
      | true =>
        obtain ⟨hin, hxe⟩ := hok rfl
        have HXE := Lib.hid hxe
        clear hok hno hxe
        have hset := fun W h => sheet_set_i M bo cols rows vo O k xv hx64 (by rw [HZ.out]; exact hlt) (by rw [HZ.out]; omega) W h
        go_upto_region 13 with fail
        refine wp_region_one 8 (fun W => Pl.MB N M bw c r vw bs bo cols rows vo O w W ∧ Blk W gx (ints .i16 xv) 34) (fun W => Pl.MB N M bw c r vw bs bo cols rows vo (O.set k xv) w W ∧ Blk W gx (ints .i16 xv) 34) (by kernel_rfl) (by kernel_rfl) (by decide) ⟨hMB.below (Below.refl _ _).drew, hbx.drew⟩ ?_
        clear hMB hbx
        (refine one_pure (v := ?_) (by decide) (by rfl) ?_ ?_; rotate_left; (intro wS hS; go_simp; try with_reducible rfl); simp only [Act.put, List.setIfInBounds_toArray, List.set_cons_zero, List.set_cons_succ])
        (refine one_pure (v := ?_) (by decide) (by rfl) ?_ ?_; rotate_left; (intro wS hS; go_simp; try with_reducible rfl); simp only [Act.put, List.setIfInBounds_toArray, List.set_cons_zero, List.set_cons_succ])
        (refine one_pure (v := ?_) (by decide) (by rfl) ?_ ?_; rotate_left; (intro wS hS; go_simp; try with_reducible rfl); simp only [Act.put, List.setIfInBounds_toArray, List.set_cons_zero, List.set_cons_succ])
        refine one_pure (v := .int .i64 ((k : Int) / (cols : Int))) (by decide) (by rfl) (fun w1 hS => by go_simp) ?_
        simp only [Act.put, List.setIfInBounds_toArray, List.set_cons_zero, List.set_cons_succ]
        (refine one_pure (v := ?_) (by decide) (by rfl) ?_ ?_; rotate_left; (intro wS hS; go_simp; try with_reducible rfl); simp only [Act.put, List.setIfInBounds_toArray, List.set_cons_zero, List.set_cons_succ])
        (refine one_pure (v := ?_) (by decide) (by rfl) ?_ ?_; rotate_left; (intro wS hS; go_simp; try with_reducible rfl); simp only [Act.put, List.setIfInBounds_toArray, List.set_cons_zero, List.set_cons_succ])
        refine one_pure (v := .int .i64 ((k : Int) % (cols : Int))) (by decide) (by rfl) (fun w1 hS => by go_simp; exact Int.tmod_eq_emod_of_nonneg (by omega)) ?_
        simp only [Act.put, List.setIfInBounds_toArray, List.set_cons_zero, List.set_cons_succ]
        refine one_pure (by decide) (by rfl) (fun w1 hS => run_exec_load_row 34 _ rfl gx rfl 34 _ _ (hS.elim (fun h => h.2) (fun h => h.2)) Try.underlying34 rfl (by rw [ints_size, hx64]; kernel_rfl)) ?_
        simp only [Act.put, List.setIfInBounds_toArray, List.set_cons_zero, List.set_cons_succ]
        refine one_call (v := .bool true) rfl (by rfl) (by intro wS hS; go_simp; first | done | exact ⟨rfl, rfl⟩) (fun w1 hS => (hset w1 hS.1.so).mono fun e w2 hh => ?_) ?_
        · obtain ⟨he, hs2, hsz, hos, htp, hout, hk⟩ := hh
          have hvo : ∀ g, vo.ownBlock = some g → M ≤ g := fun g hg => (hS.1.so.row.lt g hg).1
          exact ⟨he, ⟨(hk _ hS.1.bO.lt (fun e => by have := hvo _ e; omega)).trans hS.1.bO,
            ⟨(hk _ hS.1.sp.box.lt (fun e => by have := hvo _ e; omega)).trans hS.1.sp.box, hS.1.sp.row.same (fun g hg => hk g (hS.1.sp.row.lt g hg).2 (fun e => by have := hvo _ e; have := huM g hg; omega)), hS.1.sp.h64, hS.1.sp.len⟩, hs2,
            hS.1.hB.trans ⟨hos, htp, hout, hsz, fun j hj => hk j (by have := hS.1.bO.lt; omega) (fun e => by have := hvo _ e; omega)⟩⟩,
            (hk _ hS.2.lt (fun e => hvg _ e rfl)).trans hS.2⟩
        simp only [Act.put, List.setIfInBounds_toArray, List.set_cons_zero, List.set_cons_succ]
        refine one_nil ⟨by simp, ?_⟩
        rintro W11 ⟨hMB, -⟩
        clear hq1 hset
        go_wp2_with fail
        refine ⟨⟨k + 1, O.set k xv, by omega, by go_num, by rw [List.length_set]; exact hOl, fun j hj => ?_, hMB⟩, by simp [intOf]; omega⟩
        by_cases hjk : j = k
        · subst hjk
          exact ⟨hin, by rw [Pl.blk_set_self (by omega)]; exact HXE.out⟩
        · rw [Pl.blk_set_ne hjk]
          exact hO j (by omega)
    · have tk : decide (k < z) = false := by simpa using hlt
      obtain rfl : k = z := by omega
      have hall : cols ≤ r ∧ rows ≤ c := by
        constructor
        · by_cases h : cols ≤ r
          · exact h
          · exfalso
            have h1 := (hO r (by rw [← HZ.out]; exact Nat.lt_of_lt_of_le (show r < cols by omega) (Nat.le_mul_of_pos_right _ (by omega)))).1.1
            rw [Nat.mod_eq_of_lt (by omega)] at h1
            omega
        · by_cases h : rows ≤ c
          · exact h
          · exfalso
            have h1 := (hO (cols * c) (by rw [← HZ.out]; exact Nat.mul_lt_mul_of_pos_left (by omega) (by omega))).1.2
            rw [Nat.mul_div_cancel_left _ (by omega)] at h1
            omega
      have hOe : O = Pl.trn bs c cols k := Pl.trn_eq hOl (fun i hi => (hO i hi).2)
      subst hOe
      have hcz : cols * rows ≤ 16384 := by rw [HZ.out]; omega
      have hpl := sheet_plane M bo cols rows vo _ hcz wr hMB.so
      rw [Pl.trn_len] at hpl
      have hsz := hMB.bO.lt
      go_wp2_with (first
        | (go_at_call 20; refine hpl.mono ?_; rintro e w5 ⟨v, rfl, hR, hb5⟩; obtain ⟨bv, cv, rfl⟩ := hR.len; have b15 := hMB.bO.below hb5 hMB.bO.lt)
        | (refine wpList_store_row rfl 24 _ _ rfl (N+1) _ rfl rfl 24 _ b15 (by kernel_rfl) rfl (by simp [Value.oneCell']) ?_))
      refine bodyPost_ret (results_row_tmp rfl _ _ (N + 1) 24 _ _ rfl (b15.row _) Try.underlying24 rfl (by kernel_rfl)) rfl ?_
      exact ⟨Below.setRow (hMB.hB.trans (hb5.mono (by omega))) (by omega) _, fun _ => ⟨_, rfl, by rw [HZ.out]; exact (hR.setRowT b15 (by decide) _).down (by omega)⟩, fun h => absurd hall h⟩
end Go.Proofs.Ytpjocfcemjdneaa
