/- aquatintlaw10.PlaneSheets, walked. -/
import Derived.Test.YtpjocfcemjdneaaSheetAt
import Derived.Test.YtpjocfcemjdneaaRPlane
import Derived.Test.YtpjocfcemjdneaaAwake10
import Derived.Test.YtpjocfcemjdneaaWin2
import Derived.Test.YtpjocfcemjdneaaOpenPl
import Derived.Test.YtpjocfcemjdneaaRows
namespace Go.Proofs.Ytpjocfcemjdneaa
open Go.RowKit Go.ChangeShapes
set_option maxRecDepth 100000
theorem plane_new_no (c r : Int) (s : Int) (hs : Pl.sized c r = s) (h0 : s ≠ 0) (w : World) : Calls Try.prog 16 #[.int .i64 c, .int .i64 r] w fun e w' => e = .returned (.tuple #[.pointer none, .int .i64 s]) ∧ w = w' := by
  have hps := plane_sized c r w
  rw [hs] at hps
  have t0 : decide (s = 0) = false := by simpa using h0
  clear hs
  go_enter Try.func16, Try.ntmps16
  go_wp2_with (go_at_call 34; refine hps.mono ?_; rintro e w1 ⟨rfl, rfl⟩)
  go_ret2
  exact ⟨rfl, rfl⟩
namespace Pl
def ott : List Int := 1 :: 2 :: 3 :: List.replicate 61 0
theorem blk_set {bs : List (List Int)} {k : Nat} (h : k < bs.length) (b : List Int) : blk (bs.set k b) k = b := by
  unfold blk
  rw [List.getD_eq_getElem?_getD, List.getElem?_set_self h]
  rfl
end Pl
theorem run_exec_build {P : Program} {o : Oper} {a : Act} {w : World} (t : TypeId) (parts : Array (Nat × Operand)) (ho : o.op = .build t parts) (cells : Array Value)
    (hf : P.built t (parts.map fun (i, x) => (i, a.eval x)).toList = some cells) : (execOp a.eval o).run P w = .ok (.value (.agg cells)) w := by
  unfold execOp
  simp only [ho, Sem.run_bind, run_build w t _ cells hf, Result.andThen_ok, Sem.run_pure]
theorem Row.setRow' {w : World} {lo : Nat} {e : TypeId} {size : Nat} {v : Value} {n : Nat} {xs : List Value} (h : Row w lo e size v n xs) (k : Nat) (ds : Array Value) (hn : ∀ g, v.ownBlock = some g → g ≠ k) : Row (w.setRow k ds) lo e size v n xs :=
  h.same fun g hg => setRow_other _ _ _ _ (hn g hg)
theorem Row.there {w : World} {lo : Nat} {e : TypeId} {n g cap : Nat} {xs : List Value} (h : Row w lo e 64 (.slice (some ⟨g, 0, none⟩) n cap) n xs) (k : Nat) (hk : k < n) (m : Nat) (hm : m = 64) : World.there w g (k * 64) m := by
  rcases h.2 with ⟨h0, _⟩ | ⟨g', cap', cur, h0, h2, h3, h4, h5, h6, h7⟩
  · cases h0
  · cases h0
    intro j hj
    rw [hm] at hj
    have hlt : k * 64 + j < cur.size := by
      have h1 : k * 64 + 64 ≤ n * 64 := by omega
      have h2 : n * 64 ≤ cap * 64 := Nat.mul_le_mul_right _ h4
      omega
    exact ⟨by rw [h3.cell, Array.getElem?_eq_getElem hlt]; rfl, h3.free _⟩
namespace planeSheets
/-- What a round keeps: the sheet and the model (in block M, z blocks) have the same blocks. -/
structure Inv (N M b : Nat) (c r z : Nat) (u : Value) (w : World) (bs : List (List Int)) (wr : World) : Prop where
  sh : Pl.Sheet wr N b c r u bs
  mo : Row wr M 34 64 (.slice (some ⟨M, 0, none⟩) z z) z (bcells bs)
  hB : Below N w wr
theorem Inv.below {N M b c r z : Nat} {u : Value} {w : World} {bs : List (List Int)} {wr wr' : World} (h : Inv N M b c r z u w bs wr) (hN : N ≤ wr.heap.size) (hb : Below wr.heap.size wr wr') : Inv N M b c r z u w bs wr' := ⟨h.sh.below hb, h.mo.grow hb, h.hB.trans (hb.mono hN)⟩
theorem Inv.hM {N M b c r z : Nat} {u : Value} {w : World} {bs : List (List Int)} {wr : World} (h : Inv N M b c r z u w bs wr) : M < wr.heap.size := (h.mo.lt M rfl).2
set_option maxHeartbeats 4000000 in
theorem walk (cols rows : Int) (v2 v3 : Value) (xs : List RectArg) (bl : List (List Int)) (w : World) (h2 : IsRects w v2 xs) (h3 : IsBlocks w v3 bl) :
    Calls Try.prog 5 #[.int .i64 cols, .int .i64 rows, v2, v3] w fun e w' => e = .returned (.bool true) ∧ Below w.heap.size w w' := by
  obtain ⟨lb, lc, rfl, hl1, hl2⟩ := h2.1.len
  have hxl : (xs.map RectArg.cells).length = xs.length := by simp
  rw [hxl] at hl1 h2 ⊢
  obtain ⟨bb, bc, rfl, hb1, hb2⟩ := h3.ar.len
  have hm1 : xs.length ≤ 9223372036854775807 := Nat.le_trans hl1 (Nat.le_trans hl2 (by unfold maxLen; decide))
  have hm2 : bl.length ≤ 9223372036854775807 := Nat.le_trans hb1 (Nat.le_trans hb2 (by unfold maxLen; decide))
  clear hxl hl1 hl2 hb1 hb2
  by_cases h50 : xs.length ≤ 50 ∧ xs.length ≤ bl.length
  · obtain ⟨h50, hlb⟩ := h50
    have t1 : decide (50 < (xs.length : Int)) = false := by simp; omega
    have t2 : decide (bl.length < xs.length) = false := by simp; omega
    go_enter Try.func5, Try.ntmps5
    go_upto_region 3 with (go_at_call 9; refine (awake10 _).mono ?_; rintro e w1 ⟨rfl, hb1⟩)
    obtain ⟨s, hs⟩ : ∃ s, Pl.sized cols rows = s := ⟨_, rfl⟩
    have hrs := ref_sized cols rows
    simp only [hs] at hrs
    by_cases hs0 : s = 0
    · subst hs0
      obtain ⟨k1, k2, k3, k4, k5, k6⟩ := Pl.sized_ok hs
      obtain ⟨c, rfl⟩ : ∃ k : Nat, cols = k := ⟨cols.toNat, by omega⟩
      obtain ⟨r, rfl⟩ : ∃ k : Nat, rows = k := ⟨rows.toNat, by omega⟩
      obtain ⟨z, hz⟩ : ∃ z : Nat, c * r = z := ⟨_, rfl⟩
      have hzi : (c : Int) * (r : Int) = (z : Int) := by rw [← hz]; push_cast; rfl
      rw [hzi] at k5 k6
      have hzw : wrap64 (z : Int) = (z : Int) := IntWalk.wrap64_in _ (by omega)
      have hnew := plane_new c r hs w1
      have HZ := Lib.hid hz
      have HS := Lib.hid hs
      have HCR : c * r ≤ 16384 := by rw [hz]; omega
      have HCR := Lib.hid HCR
      clear hs hz
      by_cases h400 : z ≤ 400
      · have t3 : decide (400 < (z : Int)) = false := by simp; omega
        have hmk := fun W => run_make_blocks z (by omega) W
        go_upto_region 9 with (first | (go_at_call 16; refine hnew.mono ?_; rintro e w2 ⟨b, u, rfl, hSh, hbw, hb2⟩) | (go_at_call 17; refine (hrs _).mono ?_; rintro e w3 ⟨rfl, rfl⟩))
        obtain ⟨N, hN⟩ : ∃ N, N = w.heap.size := ⟨_, rfl⟩
        obtain ⟨M, hM⟩ : ∃ M, M = w2.heap.size := ⟨_, rfl⟩
        have HN := Lib.hid hN
        have hNw : N ≤ w1.heap.size := by rw [hN]; exact hb1.size
        have hSN : Pl.Sheet w2 N b c r u (List.replicate (c * r) (List.replicate 64 0)) := ⟨hSh.box, hSh.row.down hNw, hSh.h64, hSh.len⟩
        have hB2 : Below N w w2 := by rw [hN]; exact hb1.trans (hb2.mono hb1.size)
        have huM : ∀ g, u.ownBlock = some g → N ≤ g ∧ g < M := fun g hg => by rw [hM]; exact hSN.row.lt g hg
        have hbM : b < M := by rw [hM]; exact hSh.box.lt
        have hNM : N ≤ M := by rw [hM, hN]; exact hB2.size
        refine wp_world (fun W => Inv N M b c r z u w (List.replicate z (List.replicate 64 0)) W) ?_ ?_
        · have hg : Below w2.heap.size w2 (w2.alloc (.cells (Array.replicate (z * 64) (.int .i16 0)) 34)) := (Below.refl _ _).alloc (Nat.le_refl _) _
          refine ⟨?_, ⟨by rw [bcells_zero]; simp, .inr ⟨M, z, _, rfl, Nat.le_refl _, Blk.new' _ _ _ hM, Nat.le_refl _, by simp only [maxLen]; omega, by simp, by rw [bcells_zero]; simp⟩⟩, hB2.trans (hg.mono (by rw [← hM]; exact hNM))⟩
          have := hSN.below hg
          rw [HZ.out] at this
          exact this
        rw [← hM]
        clear hzi hzw hN hM hSh hSN hB2 hb1 hb2 hbw hmk hnew hNw hrs
        rintro W0 hI
        have hL0 : (List.replicate z (List.replicate 64 (0 : Int))).length = z := by simp
        have hR0 : Right64 (List.replicate z (List.replicate 64 (0 : Int))) := fun x hx => by rw [List.eq_of_mem_replicate hx]; simp
        generalize List.replicate z (List.replicate 64 (0 : Int)) = bs0 at *
        go_wp2_with fail
        go_loopw [12] (fun i wr => ∃ (k : Nat) (bs : List (List Int)), k ≤ xs.length ∧ i = .int .i64 k ∧ bs.length = z ∧ Inv N M b c r z u w bs wr) (fun i _ => xs.length - (intOf i).toNat)
        case atStart => exact ⟨0, bs0, Nat.zero_le _, rfl, hL0, hI⟩
        case round =>
          clear hI
          obtain ⟨k, bs, hk, rfl, hbl, hI⟩ := hrel
          have hMw := hI.hM
          by_cases hlt : k < xs.length
          · have tk : decide (k < xs.length) = true := by simpa using hlt
            have hkb : k < bl.length := Nat.lt_of_lt_of_le hlt hlb
            obtain ⟨ad, cap, hsl, hc⟩ := h2.1.at (by rw [← HN.out]; exact hI.hB) (i := k) (by simpa using hlt)
            obtain ⟨rfl, rfl⟩ : lb = some ad ∧ lc = cap := by simpa using hsl
            obtain ⟨⟨x, y, hh, dd⟩, hx⟩ : ∃ a, xs.getD k ⟨0, 0, 0, 0⟩ = a := ⟨_, rfl⟩
            have hcl : (xs.map RectArg.cells).getD k [] = [.int .i64 x, .int .i64 y, .int .i64 hh, .int .i64 dd] := by
              rw [List.getD_eq_getElem?_getD, List.getElem?_map, List.getElem?_eq_getElem hlt]
              rw [List.getD_eq_getElem?_getD, List.getElem?_eq_getElem hlt] at hx
              simp only [Option.getD_some] at hx
              simp [hx, RectArg.cells]
            rw [hcl] at hc
            have e0 := hc 0 (by omega)
            have e1 := hc 1 (by omega)
            rw [Nat.add_zero] at e0
            rw [← Go.Deep.add_add] at e1
            obtain ⟨a2, ha2⟩ : ∃ a2, ad.add (k * 4) = a2 := ⟨_, rfl⟩
            rw [ha2] at e0 e1
            have g1 : a2.add 1 = ⟨a2.block, a2.off + 1, none⟩ := by unfold Addr.add; rw [if_neg (by decide)]
            rw [g1] at e1
            clear g1
            simp only [List.getElem?_cons_zero, List.getElem?_cons_succ] at e0 e1
            have ij0 : (0 : Int) ≤ (k : Int) := by omega
            have ij1 : (k : Int) < (xs.length : Int) := by omega
            have ij2 : (k : Int) < (bl.length : Int) := by omega
            have hNwr : N ≤ wr.heap.size := by omega
            clear hc hcl hx hsl
            go_upto_region 12 with fail
            refine wp_region_det (fun W => (W.cell? a2 = some (.int .i64 x) ∧ W.cell? ⟨a2.block, a2.off + 1, none⟩ = some (.int .i64 y)) ∧ Inv N M b c r z u w bs W) (by kernel_rfl) (by kernel_rfl) ⟨⟨e0, e1⟩, hI.below hNwr (Below.refl _ _).drew⟩ ?_
            clear e0 e1
            (repeat (first | (refine det_skip (by rfl) ?_; simp only [Act.put, List.setIfInBounds_toArray, List.set_cons_zero, List.set_cons_succ]) | (refine det_pure (v := ?_) (by rfl) ?_ ?_; rotate_left; (intro wS hS; go_simp; try with_reducible rfl); simp only [Act.put, List.setIfInBounds_toArray, List.set_cons_zero, List.set_cons_succ])))
            refine det_nil ?_
            clear hI hMw hNwr
            rintro W1 ⟨_, hI⟩
            have hMw := hI.hM
            have hNw : N ≤ W1.heap.size := by omega
            have hA1 := h3.ar.below (w' := W1) (by rw [← HN.out]; exact hI.hB)
            obtain ⟨bd, cap', he, -, -⟩ := hA1.some (by omega)
            obtain ⟨rfl, rfl⟩ : bb = some bd ∧ bc = cap' := by simpa using he
            have hbx := Pl.blk_get hkb
            have hb64 := Pl.blk_len h3.h64 k
            obtain ⟨blkk, hbk⟩ : ∃ x, Pl.blk bl k = x := ⟨_, rfl⟩
            rw [hbk] at hbx hb64
            clear he hbk ha2
            by_cases hin : Pl.isIn c r x y
            · obtain ⟨i0, i1, i2, i3⟩ := hin
              obtain ⟨x, rfl⟩ : ∃ n : Nat, x = n := ⟨x.toNat, by omega⟩
              obtain ⟨y, rfl⟩ : ∃ n : Nat, y = n := ⟨y.toNat, by omega⟩
              have hxr : x < r := by omega
              have hyc : y < c := by omega
              have d1 : decide (x < r) = true := by simpa using hxr
              have d3 : decide (y < c) = true := by simpa using hyc
              clear i0 i1 i2 i3
              obtain ⟨q, hq⟩ : ∃ q : Nat, x * c = q := ⟨_, rfl⟩
              have hqz : q + y < z := by
                have h1 : (x + 1) * c ≤ r * c := Nat.mul_le_mul_right _ hxr
                rw [Nat.add_mul, Nat.one_mul, hq, Nat.mul_comm r c, HZ.out] at h1
                omega
              have s0 : (0 : Int) ≤ (q : Int) + (y : Int) := by omega
              have s1 : (q : Int) + (y : Int) < (z : Int) := by omega
              have s2 : ((q : Int) + (y : Int)).toNat = q + y := by omega
              have s3 : -9223372036854775808 ≤ (q : Int) + (y : Int) ∧ (q : Int) + (y : Int) ≤ 9223372036854775807 := by omega
              have s4 : -9223372036854775808 ≤ (q : Int) ∧ (q : Int) ≤ 9223372036854775807 := by omega
              have hqi : (x : Int) * (c : Int) = (q : Int) := by rw [← hq]; push_cast; rfl
              have hqb : q + y < bs.length := by omega
              have hset := fun W h => sheet_set N b c r u bs x y blkk hb64 hxr hyc HCR.out W h
              have hat := fun W h => sheet_at N b c r u (bs.set (x * c + y) blkk) x y hxr hyc HCR.out W h
              simp only [hq] at hset hat
              rw [Pl.blk_set hqb] at hat
              have hnl : (bs.set (q + y) blkk).length = z := by rw [List.length_set]; exact hbl
              have hput := fun W cap (h : Row W M 34 64 (.slice (some ⟨M, 0, none⟩) z cap) z (bcells bs)) => h.put hI.sh.h64 hbl (q + y) hqz blkk hb64
              have hn64 : Right64 (bs.set (q + y) blkk) := fun v hv => by rcases List.mem_or_eq_of_mem_set hv with hv | rfl; exact hI.sh.h64 v hv; exact hb64
              generalize bs.set (q + y) blkk = nb at *
              have hqw : wrap64 (q : Int) = (q : Int) := IntWalk.wrap64_in _ s4
              have s3 := IntWalk.i64_in _ s3
              clear hq s4 hqb
              go_upto_region 17 with (first | (refine Great.wpList_runTo rfl _ rfl _ _ (ar_loadx hA1 h3.h64 k hkb _ hbx _ rfl rfl) ?_) | (go_at_call 18; refine (hset _ hI.sh).mono ?_; rintro e w3 ⟨rfl, hS3, hsz3, hos3, htp3, hout3, hk3⟩))
              have hmo3 := hI.mo.same (w' := w3) (fun g hg => by cases hg; exact hk3 M hMw (fun e => by have := (huM M e).2; omega))
              have hB3 : Below N w w3 := hI.hB.trans ⟨hos3, htp3, hout3, hsz3, fun k hk2 => hk3 k (by omega) (fun e => by have := (huM k e).1; omega)⟩
              have hA3 := h3.ar.below (w' := w3) (by rw [← HN.out]; exact hB3)
              have hth := hmo3.there (q + y) hqz (ints .i16 blkk).size (by rw [ints_size, hb64])
              have hM3 := (hmo3.lt M rfl).2
              clear hset hI hA1 hMw hNw hsz3 hos3 htp3 hout3 hk3
              go_upto_region 18 with (first | (refine Great.wpList_runTo rfl _ rfl _ _ (ar_loadx hA3 h3.h64 k hkb _ hbx _ rfl rfl) ?_) | (refine wpList_store_mid rfl 34 _ _ rfl M ((q + y) * 64) (ints .i16 blkk) rfl rfl hth (by rw [ints_size, hb64]; kernel_rfl) (ints_one _ _) ?_))
              have hvs : (ints .i16 blkk).toList = blkk.map (Value.int .i16) := by simp [ints]
              refine wp_world (fun W => Inv N M b c r z u w nb W) ?_ ?_
              · rw [hvs]
                obtain ⟨g1, g2, g3, g4⟩ := setCells_chg M (blkk.map (Value.int .i16)) ((q + y) * 64) w3
                exact ⟨⟨(g4 b (by omega)).trans hS3.box, hS3.row.same (fun g hg => g4 g (by have := (huM g hg).2; omega)), hS3.h64, hS3.len⟩, hput _ _ hmo3, hB3.trans ⟨g1, g2, g3, by rw [setCells_size]; exact Nat.le_refl _, fun k hk => g4 k (by omega)⟩⟩
              clear hS3 hmo3 hB3 hA3 hth hM3 hput hvs
              rintro W4 hI
              have hNw : N ≤ W4.heap.size := by have := hI.hM; omega
              go_upto_region 19 with (first | (refine Great.wpList_runTo rfl _ rfl _ _ (run_alloc_blk _ rfl) ?_) | (go_at_call 19; refine (hat _ hI.sh).mono ?_; rintro e w4 ⟨rfl, hb4⟩; obtain ⟨X, hX⟩ : ∃ X, X = w4.heap.size := ⟨_, rfl⟩; have HX := Lib.hid hX; clear hX) | (refine wpList_store_rowTo rfl 34 _ _ rfl rfl X (ints .i16 blkk) (by rw [HX.out]; rfl) rfl 34 (ints .i16 (List.replicate 64 0)) (Blk.new' _ _ _ HX.out) (by rw [ints_size, hb64]; kernel_rfl) (by rw [ints_size, ints_size, hb64]; rfl) (ints_one _ _) ?_))
              refine wp_world (fun W => Inv N M b c r z u w nb W ∧ Blk W X (ints .i16 blkk) 34) ⟨?_, (Blk.new' _ _ _ HX.out).row _⟩ ?_
              · have hI4 := (hI.below hNw hb4).below (Nat.le_trans hNw hb4.size) ((Below.refl w4.heap.size w4).alloc (Nat.le_refl _) (.cells (ints .i16 (List.replicate 64 0)) 34))
                exact ⟨⟨hI4.sh.box.rowOther _ _ (by rw [HX.out]; have := hb4.size; have := hI.hM; omega), hI4.sh.row.setRow' _ _ (fun g hg => by rw [HX.out]; have := hb4.size; have := hI.hM; have := (huM g hg).2; omega), hI4.sh.h64, hI4.sh.len⟩, hI4.mo.setRow' _ _ (fun g hg => by cases hg; show M ≠ X; rw [HX.out]; have := hb4.size; have := hI.hM; omega), Below.setRow hI4.hB (by rw [HX.out]; have := hb4.size; omega) _⟩
              rw [← HX.out]
              clear hI hb4 hat hNw
              rintro W5 ⟨hI, bX⟩
              refine wp_region_det (fun W => Inv N M b c r z u w nb W ∧ Blk W X (ints .i16 blkk) 34) (by kernel_rfl) (by kernel_rfl) ⟨hI.below (by have := hI.hM; omega) (Below.refl _ _).drew, bX.drew⟩ ?_
              (repeat (first | (refine det_skip (by rfl) ?_; simp only [Act.put, List.setIfInBounds_toArray, List.set_cons_zero, List.set_cons_succ]) | (refine det_pure (v := ?_) (by rfl) ?_ ?_; rotate_left; (intro wS hS; go_simp; try with_reducible rfl); simp only [Act.put, List.setIfInBounds_toArray, List.set_cons_zero, List.set_cons_succ])))
              refine det_load_row (by rfl) 34 _ rfl X rfl 34 (ints .i16 blkk) _ (fun _ h => h.2) Try.underlying34 rfl (by rw [ints_size, hb64]; kernel_rfl) ?_
              simp only [Act.put, List.setIfInBounds_toArray, List.set_cons_zero, List.set_cons_succ]
              (repeat (first | (refine det_skip (by rfl) ?_; simp only [Act.put, List.setIfInBounds_toArray, List.set_cons_zero, List.set_cons_succ]) | (refine det_pure (v := ?_) (by rfl) ?_ ?_; rotate_left; (intro wS hS; go_simp; try with_reducible rfl); simp only [Act.put, List.setIfInBounds_toArray, List.set_cons_zero, List.set_cons_succ])))
              refine det_pure (by rfl) (fun w1 hS => ar_loadx (h3.ar.below (w' := w1) (by rw [← HN.out]; exact hS.1.hB)) h3.h64 k hkb _ hbx _ rfl rfl) ?_
              simp only [Act.put, List.setIfInBounds_toArray, List.set_cons_zero, List.set_cons_succ]
              refine det_pure (by rfl) (fun w1 _ => run_exec_neq_ints 34 _ _ _ rfl 32 64 .i16 blkk blkk rfl rfl Try.underlying34 Try.underlying32 (by kernel_rfl) hb64 hb64 (by kernel_rfl)) ?_
              rw [decide_eq_true rfl]
              simp only [Act.put, List.setIfInBounds_toArray, List.set_cons_zero, List.set_cons_succ]
              (repeat (first | (refine det_skip (by rfl) ?_; simp only [Act.put, List.setIfInBounds_toArray, List.set_cons_zero, List.set_cons_succ]) | (refine det_pure (v := ?_) (by rfl) ?_ ?_; rotate_left; (intro wS hS; go_simp; try with_reducible rfl); simp only [Act.put, List.setIfInBounds_toArray, List.set_cons_zero, List.set_cons_succ])))
              refine det_nil ?_
              clear hI bX
              rintro W6 ⟨hI, _⟩
              go_wp2_with fail
              exact ⟨⟨k + 1, nb, by omega, by go_num, hnl, hI⟩, by simp [intOf]; omega⟩
            · have hd : decide (0 ≤ x) = false ∨ decide (0 ≤ x) = true ∧ (decide (x < (r : Int)) = false ∨ decide (x < (r : Int)) = true ∧ (decide (0 ≤ y) = false ∨ decide (0 ≤ y) = true ∧ decide (y < (c : Int)) = false)) := by
                unfold Pl.isIn at hin; simp only [decide_eq_true_eq, decide_eq_false_iff_not]; omega
              have hset := fun W h => sheet_set_no N b c r u bs x y blkk hin W h
              have hat := fun W h => sheet_at_no N b c r u bs x y hin W h
              rcases hd with d0 | ⟨d0, d1 | ⟨d1, d2 | ⟨d2, d3⟩⟩⟩
              all_goals
                go_upto_region 18 with (first | (refine Great.wpList_runTo rfl _ rfl _ _ (ar_loadx hA1 h3.h64 k hkb _ hbx _ rfl rfl) ?_) | (go_at_call 18; refine (hset _ hI.sh).mono ?_; rintro e w3 ⟨rfl, hb3⟩))
                have hI3 := hI.below hNw hb3
                have hN3 : N ≤ w3.heap.size := Nat.le_trans hNw hb3.size
                go_upto_region 19 with (first | (refine Great.wpList_runTo rfl _ rfl _ _ (run_alloc_blk _ rfl) ?_) | (go_at_call 19; refine (hat _ hI3.sh).mono ?_; rintro e w4 ⟨rfl, hb4⟩; obtain ⟨X, hX⟩ : ∃ X, X = w4.heap.size := ⟨_, rfl⟩; have HX := Lib.hid hX; clear hX) | (refine wpList_store_rowTo rfl 34 _ _ rfl rfl X (ints .i16 (List.replicate 64 0)) (by rw [HX.out]; rfl) rfl 34 (ints .i16 (List.replicate 64 0)) (Blk.new' _ _ _ HX.out) (by rw [ints_size]; kernel_rfl) rfl (ints_one _ _) ?_))
                refine wp_world (fun W => Inv N M b c r z u w bs W ∧ Blk W X (ints .i16 (List.replicate 64 0)) 34) ⟨?_, (Blk.new' _ _ _ HX.out).row _⟩ ?_
                · have hI4 := (hI3.below hN3 hb4).below (Nat.le_trans hN3 hb4.size) ((Below.refl w4.heap.size w4).alloc (Nat.le_refl _) (.cells (ints .i16 (List.replicate 64 0)) 34))
                  exact ⟨⟨hI4.sh.box.rowOther _ _ (by rw [HX.out]; have := hb4.size; have := hI3.hM; omega), hI4.sh.row.setRow' _ _ (fun g hg => by rw [HX.out]; have := hb4.size; have := hI3.hM; have := (huM g hg).2; omega), hI4.sh.h64, hI4.sh.len⟩, hI4.mo.setRow' _ _ (fun g hg => by cases hg; show M ≠ X; rw [HX.out]; have := hb4.size; have := hI3.hM; omega), Below.setRow hI4.hB (by rw [HX.out]; have := hb4.size; omega) _⟩
                rw [← HX.out]
                clear hI hI3 hb3 hb4 hset hat hMw hNw hA1 hN3
                rintro W5 ⟨hI, bX⟩
                refine wp_region_det (fun W => Inv N M b c r z u w bs W ∧ Blk W X (ints .i16 (List.replicate 64 0)) 34) (by kernel_rfl) (by kernel_rfl) ⟨hI.below (by have := hI.hM; omega) (Below.refl _ _).drew, bX.drew⟩ ?_
                (repeat (first | (refine det_skip (by rfl) ?_; simp only [Act.put, List.setIfInBounds_toArray, List.set_cons_zero, List.set_cons_succ]) | (refine det_pure (v := ?_) (by rfl) ?_ ?_; rotate_left; (intro wS hS; go_simp; try with_reducible rfl); simp only [Act.put, List.setIfInBounds_toArray, List.set_cons_zero, List.set_cons_succ])))
                refine det_load_row (by rfl) 34 _ rfl X rfl 34 (ints .i16 (List.replicate 64 0)) _ (fun _ h => h.2) Try.underlying34 rfl (by rw [ints_size]; kernel_rfl) ?_
                simp only [Act.put, List.setIfInBounds_toArray, List.set_cons_zero, List.set_cons_succ]
                refine det_pure (by rfl) (fun w1 _ => run_exec_build 34 _ rfl (ints .i16 (List.replicate 64 0)) (by kernel_rfl)) ?_
                simp only [Act.put, List.setIfInBounds_toArray, List.set_cons_zero, List.set_cons_succ]
                refine det_pure (by rfl) (fun w1 _ => run_exec_neq_ints 34 _ _ _ rfl 32 64 .i16 (List.replicate 64 0) (List.replicate 64 0) rfl rfl Try.underlying34 Try.underlying32 (by kernel_rfl) rfl rfl (by kernel_rfl)) ?_
                rw [decide_eq_true rfl]
                simp only [Act.put, List.setIfInBounds_toArray, List.set_cons_zero, List.set_cons_succ]
                (repeat (first | (refine det_skip (by rfl) ?_; simp only [Act.put, List.setIfInBounds_toArray, List.set_cons_zero, List.set_cons_succ]) | (refine det_pure (v := ?_) (by rfl) ?_ ?_; rotate_left; (intro wS hS; go_simp; try with_reducible rfl); simp only [Act.put, List.setIfInBounds_toArray, List.set_cons_zero, List.set_cons_succ])))
                refine det_nil ?_
                clear hI bX
                rintro W6 ⟨hI, _⟩
                go_wp2_with fail
                exact ⟨⟨k + 1, bs, by omega, by go_num, hbl, hI⟩, by simp [intOf]; omega⟩
          · have tk : decide (k < xs.length) = false := by simpa using hlt
            obtain rfl : k = xs.length := by omega
            go_upto_region 21 with fail
            have hNw : N ≤ wr.heap.size := by omega
            have hz1 : 1 ≤ z := by have := k1; have := k2; have h := Nat.mul_le_mul (show 1 ≤ c by omega) (show 1 ≤ r by omega); rw [HZ.out] at h; omega
            have hrb : Pl.right c r bs.length = true := by
              rw [hbl, ← HZ.out]; exact Pl.right_of (by omega) (by omega) HCR.out
            have hbcr : bs.length = c * r := by rw [HZ.out]; exact hbl
            have hpl := sheet_plane N b c r u bs HCR.out wr hI.sh
            have hofc := fun W v hA => plane_of c r v bs hI.sh.h64 hrb hbcr W hA
            have h64 := hI.sh.h64
            rw [hbl] at hpl
            obtain ⟨P, hP⟩ : ∃ P, P = wr.heap.size := ⟨_, rfl⟩
            rw [← hP] at hpl
            have HP := Lib.hid hP
            have HRB := Lib.hid hrb
            have HBC := Lib.hid hbcr
            have HBL := Lib.hid hbl
            clear hP hrb hbcr
            go_upto_region 22 with (first | (refine wpList_store_row rfl 24 _ _ rfl Q _ (by rw [HQ.out]; rfl) rfl 24 _ (Blk.new' _ _ _ HQ.out) (by kernel_rfl) rfl (by simp [Value.oneCell']) ?_) | (go_at_call 20; refine hpl.mono ?_; rintro e w2 ⟨v, rfl, hR, hb2⟩; obtain ⟨bv, cv, rfl⟩ := hR.len; obtain ⟨Q, hQ⟩ : ∃ Q, Q = w2.heap.size := ⟨_, rfl⟩; have HQ := Lib.hid hQ; clear hQ))
            have hP1 : M < P := by rw [HP.out]; exact hI.hM
            refine wp_world (fun W => Inv N M b c r z u w bs W ∧ Blk W Q #[.int .i64 c, .int .i64 r, .slice bv z cv] 24 ∧ Row W P 34 64 (.slice bv z cv) z (bcells bs)) ?_ ?_
            · have hg : Below w2.heap.size w2 (w2.alloc (.cells #[.int .i64 0, .int .i64 0, .slice none 0 0] 24)) := (Below.refl _ _).alloc (Nat.le_refl _) _
              have hb2' : Below wr.heap.size wr w2 := by rw [← HP.out]; exact hb2
              have hI4 := (hI.below hNw hb2').below (Nat.le_trans hNw hb2'.size) hg
              have hQ1 := hb2'.size
              have hMw := hI.hM
              have hQe := HQ.out
              exact ⟨⟨⟨hI4.sh.box.rowOther _ _ (by omega), hI4.sh.row.setRow' _ _ (fun g hg => by have := (huM g hg).2; omega), hI4.sh.h64, hI4.sh.len⟩, hI4.mo.setRow' _ _ (fun g hg => by cases hg; show M ≠ Q; omega), Below.setRow hI4.hB (by omega) _⟩, (Blk.new' _ _ _ hQe).row _, (hR.grow hg).setRow' _ _ (fun g hg => by have := (hR.lt g hg).2; omega)⟩
            rw [← HQ.out]
            clear hI hb2 hR hpl hNw hMw
            rintro W3 ⟨hI, bQ, hR⟩
            have q0 := bQ.cell 0
            have q1 := bQ.cell 1
            have q2 := bQ.cell 2
            go_wp2_with fail
            go_loopw [19] (fun i wx => ∃ j : Nat, j ≤ z ∧ i = .int .i64 j ∧ Inv N M b c r z u w bs wx ∧ Blk wx Q #[.int .i64 c, .int .i64 r, .slice bv z cv] 24 ∧ Row wx P 34 64 (.slice bv z cv) z (bcells bs)) (fun i _ => z - (intOf i).toNat)
            case atStart => exact ⟨0, Nat.zero_le _, rfl, hI, bQ, hR⟩
            case round =>
              clear hI bQ hR q0 q1 q2
              obtain ⟨j, hj, rfl, hI, bQ, hR⟩ := hrel
              obtain ⟨g, cg, hgv, hg1, hg2, -⟩ := hR.cells (by omega)
              obtain ⟨rfl, rfl⟩ : bv = some ⟨g, 0, none⟩ ∧ cv = cg := by simpa using hgv
              clear hgv
              by_cases hj1 : j < z
              · have tj : decide (j < z) = true := by simpa using hj1
                have ij0 : (0 : Int) ≤ (j : Int) := by omega
                have ij1 : (j : Int) < (z : Int) := by omega
                have hjb : j < bs.length := by rw [HBL.out]; exact hj1
                have hbx := Pl.blk_get hjb
                have hb64 := Pl.blk_len h64 j
                generalize Pl.blk bs j = xj at *
                go_upto_region 27 with fail
                refine wp_region_det (fun W => Inv N M b c r z u w bs W ∧ Blk W Q #[.int .i64 c, .int .i64 r, .slice (some ⟨g, 0, none⟩) z cv] 24 ∧ Row W P 34 64 (.slice (some ⟨g, 0, none⟩) z cv) z (bcells bs)) (by kernel_rfl) (by kernel_rfl) ⟨hI.below (by have := hI.hM; omega) (Below.refl _ _).drew, bQ.drew, hR.same fun _ _ => rfl⟩ ?_
                clear hI bQ hR
                (repeat (first | (refine det_skip (by rfl) ?_; simp only [Act.put, List.setIfInBounds_toArray, List.set_cons_zero, List.set_cons_succ]) | (refine det_pure (v := ?_) (by rfl) ?_ ?_; rotate_left; (intro wS hS; go_simp; try with_reducible rfl); simp only [Act.put, List.setIfInBounds_toArray, List.set_cons_zero, List.set_cons_succ])))
                refine det_pure (v := .slice (some ⟨g, 0, none⟩) z cv) (by rfl) (fun wS hS => by have q := hS.2.1.cell 2; go_simp; try with_reducible rfl) ?_
                simp only [Act.put, List.setIfInBounds_toArray, List.set_cons_zero, List.set_cons_succ]
                (repeat (first | (refine det_skip (by rfl) ?_; simp only [Act.put, List.setIfInBounds_toArray, List.set_cons_zero, List.set_cons_succ]) | (refine det_pure (v := ?_) (by rfl) ?_ ?_; rotate_left; (intro wS hS; go_simp; try with_reducible rfl); simp only [Act.put, List.setIfInBounds_toArray, List.set_cons_zero, List.set_cons_succ])))
                refine det_pure (by rfl) (fun w1 hS => ar_loadx hS.2.2.ar h64 j hjb _ hbx _ rfl (by show _ = Value.pointer (some (Addr.add ⟨g, 0, none⟩ (j * 64))); rw [Addr.add_mid, Nat.zero_add]; rfl)) ?_
                simp only [Act.put, List.setIfInBounds_toArray, List.set_cons_zero, List.set_cons_succ]
                (repeat (first | (refine det_skip (by rfl) ?_; simp only [Act.put, List.setIfInBounds_toArray, List.set_cons_zero, List.set_cons_succ]) | (refine det_pure (v := ?_) (by rfl) ?_ ?_; rotate_left; (intro wS hS; go_simp; try with_reducible rfl); simp only [Act.put, List.setIfInBounds_toArray, List.set_cons_zero, List.set_cons_succ])))
                refine det_pure (by rfl) (fun w1 hS => ar_loadx hS.1.mo.ar h64 j hjb _ hbx _ rfl (by show _ = Value.pointer (some (Addr.add ⟨M, 0, none⟩ (j * 64))); rw [Addr.add_mid, Nat.zero_add]; rfl)) ?_
                simp only [Act.put, List.setIfInBounds_toArray, List.set_cons_zero, List.set_cons_succ]
                refine det_pure (by rfl) (fun w1 _ => run_exec_neq_ints 34 _ _ _ rfl 32 64 .i16 xj xj rfl rfl Try.underlying34 Try.underlying32 (by kernel_rfl) hb64 hb64 (by kernel_rfl)) ?_
                rw [decide_eq_true rfl]
                simp only [Act.put, List.setIfInBounds_toArray, List.set_cons_zero, List.set_cons_succ]
                (repeat (first | (refine det_skip (by rfl) ?_; simp only [Act.put, List.setIfInBounds_toArray, List.set_cons_zero, List.set_cons_succ]) | (refine det_pure (v := ?_) (by rfl) ?_ ?_; rotate_left; (intro wS hS; go_simp; try with_reducible rfl); simp only [Act.put, List.setIfInBounds_toArray, List.set_cons_zero, List.set_cons_succ])))
                refine det_nil ?_
                rintro W6 ⟨hI, bQ, hR⟩
                go_wp2_with fail
                exact ⟨⟨j + 1, by omega, by go_num, hI, bQ, hR⟩, by simp [intOf]; omega⟩
              · have tj : decide (j < z) = false := by simpa using hj1
                obtain rfl : j = z := by omega
                have hNz : N ≤ wr.heap.size := by have := hI.hM; omega
                have hof := hofc wr _ (by rw [HBL.out]; exact hR.ar)
                go_upto_region 30 with (first | (refine wpList_load_row rfl 24 _ rfl Q rfl 24 _ _ _ bQ Try.underlying24 rfl (by kernel_rfl) ?_) | (go_at_call 21; refine hof.mono ?_; rintro e w7 ⟨b2, v2, rfl, hS2, hbz, hb7⟩))
                have bQ7 := bQ.below hb7 bQ.lt
                have hI7 := hI.below hNz hb7
                have hR7 := hR.grow hb7
                have q2 := bQ7.cell 2
                have hth : World.there w7 g 0 (ints .i16 Pl.ott).size := by simpa using hR7.there 0 (by omega) (ints .i16 Pl.ott).size (by rw [ints_size]; rfl)
                have hgz : g < wr.heap.size := hg2
                have hS2b : wr.heap.size ≤ b2 := hbz
                have hS2u : ∀ k, v2.ownBlock = some k → wr.heap.size ≤ k := fun k hk => (hS2.row.lt k hk).1
                have z0 : (0 : Int) < (j : Int) := by omega
                clear hof hb7 hbz hI bQ hR hg2
                go_upto_region 31 with (first | (refine wpList_buildTo rfl 34 _ rfl (some 195) rfl (ints .i16 Pl.ott) (by kernel_rfl) ?_) | (refine wpList_store_mid rfl 34 _ _ rfl g 0 (ints .i16 Pl.ott) rfl rfl hth (by rw [ints_size]; kernel_rfl) (ints_one _ _) ?_))
                obtain ⟨L, hL⟩ : ∃ L, wr.heap.size = L := ⟨_, rfl⟩
                rw [hL] at hgz hS2b hS2u hS2
                clear hL
                have hat : ∀ W, Pl.Sheet W L b2 c r v2 bs → Calls Try.prog 19 #[.pointer (some ⟨b2, 0, none⟩), .int .i64 0, .int .i64 0] W fun e w' => e = .returned (.tuple #[.agg (ints .i16 (Pl.blk bs 0)), .bool true]) ∧ Below W.heap.size W w' := fun W h => by
                  have hh := sheet_at L b2 c r v2 bs 0 0 (by omega) (by omega) HCR.out W h
                  rw [Nat.zero_mul, Nat.zero_add] at hh
                  exact hh
                refine wp_world (fun W => Pl.Sheet W L b2 c r v2 bs ∧ Row W M 34 64 (.slice (some ⟨M, 0, none⟩) j j) j (bcells bs) ∧ Below N w W) ?_ ?_
                · obtain ⟨g1, g2, g3, g4⟩ := setCells_chg g (ints .i16 Pl.ott).toList 0 w7
                  exact ⟨⟨(g4 b2 (by omega)).trans hS2.box, hS2.row.same (fun k hk => g4 k (by have := hS2u k hk; omega)), hS2.h64, hS2.len⟩, hI7.mo.same (fun k hk => by cases hk; exact g4 M (by omega)), hI7.hB.trans ⟨g1, g2, g3, by rw [setCells_size]; exact Nat.le_refl _, fun k hk => g4 k (by omega)⟩⟩
                clear bQ7 hI7 hR7 q2 hth hS2
                rintro W8 ⟨hS, hmo, hB⟩
                have hjb : 0 < bs.length := by rw [HBL.out]; omega
                have hbx := Pl.blk_get hjb
                have hb64 := Pl.blk_len h64 0
                generalize Pl.blk bs 0 = xj at *
                go_upto_region 32 with (first | (refine Great.wpList_runTo rfl _ rfl _ _ (run_alloc_blk _ rfl) ?_) | (go_at_call 19; refine (hat _ hS).mono ?_; rintro e w9 ⟨rfl, hb9⟩; obtain ⟨X, hX⟩ : ∃ X, X = w9.heap.size := ⟨_, rfl⟩; have HX := Lib.hid hX; clear hX) | (refine wpList_store_rowTo rfl 34 _ _ rfl rfl X (ints .i16 xj) (by rw [HX.out]; rfl) rfl 34 (ints .i16 (List.replicate 64 0)) (Blk.new' _ _ _ HX.out) (by rw [ints_size, hb64]; kernel_rfl) (by rw [ints_size, ints_size, hb64]; rfl) (ints_one _ _) ?_))
                refine wp_world (fun W => Row W M 34 64 (.slice (some ⟨M, 0, none⟩) j j) j (bcells bs) ∧ Below N w W ∧ Blk W X (ints .i16 xj) 34) ⟨?_, ?_, (Blk.new' _ _ _ HX.out).row _⟩ ?_
                · have hM8 := (hmo.lt M rfl).2
                  exact ((hmo.grow hb9).grow ((Below.refl w9.heap.size w9).alloc (Nat.le_refl _) (.cells (ints .i16 (List.replicate 64 0)) 34))).setRow' _ _ (fun k hk => by cases hk; show M ≠ X; rw [HX.out]; have := hb9.size; omega)
                · have hM8 := (hmo.lt M rfl).2
                  have hX9 : N ≤ w9.heap.size := by have := hb9.size; omega
                  exact Below.setRow ((hB.trans (hb9.mono (by omega))).alloc hX9 _) (by rw [HX.out]; exact hX9) _
                rw [← HX.out]
                clear hS hmo hB hb9 hat
                rintro W9 ⟨hmo, hB, bX⟩
                refine wp_region_det (fun W => Row W M 34 64 (.slice (some ⟨M, 0, none⟩) j j) j (bcells bs) ∧ Below N w W ∧ Blk W X (ints .i16 xj) 34) (by kernel_rfl) (by kernel_rfl) ⟨hmo.same fun _ _ => rfl, hB.drew, bX.drew⟩ ?_
                clear hmo hB bX
                (repeat (first | (refine det_skip (by rfl) ?_; simp only [Act.put, List.setIfInBounds_toArray, List.set_cons_zero, List.set_cons_succ]) | (refine det_pure (v := ?_) (by rfl) ?_ ?_; rotate_left; (intro wS hS; go_simp; try with_reducible rfl); simp only [Act.put, List.setIfInBounds_toArray, List.set_cons_zero, List.set_cons_succ])))
                refine det_load_row (by rfl) 34 _ rfl X rfl 34 (ints .i16 xj) _ (fun _ h => h.2.2) Try.underlying34 rfl (by rw [ints_size, hb64]; kernel_rfl) ?_
                simp only [Act.put, List.setIfInBounds_toArray, List.set_cons_zero, List.set_cons_succ]
                (repeat (first | (refine det_skip (by rfl) ?_; simp only [Act.put, List.setIfInBounds_toArray, List.set_cons_zero, List.set_cons_succ]) | (refine det_pure (v := ?_) (by rfl) ?_ ?_; rotate_left; (intro wS hS; go_simp; try with_reducible rfl); simp only [Act.put, List.setIfInBounds_toArray, List.set_cons_zero, List.set_cons_succ])))
                refine det_pure (by rfl) (fun w1 hS => ar_loadx hS.1.ar h64 0 hjb _ hbx _ rfl (by show _ = Value.pointer (some (Addr.add ⟨M, 0, none⟩ (0 * 64))); rw [Addr.add_mid, Nat.zero_add]; rfl)) ?_
                simp only [Act.put, List.setIfInBounds_toArray, List.set_cons_zero, List.set_cons_succ]
                refine det_pure (by rfl) (fun w1 _ => run_exec_eql_ints 34 _ _ _ rfl 32 64 .i16 xj xj rfl rfl Try.underlying34 Try.underlying32 (by kernel_rfl) hb64 hb64 (by kernel_rfl)) ?_
                rw [decide_eq_true rfl]
                simp only [Act.put, List.setIfInBounds_toArray, List.set_cons_zero, List.set_cons_succ]
                (repeat (first | (refine det_skip (by rfl) ?_; simp only [Act.put, List.setIfInBounds_toArray, List.set_cons_zero, List.set_cons_succ]) | (refine det_pure (v := ?_) (by rfl) ?_ ?_; rotate_left; (intro wS hS; go_simp; try with_reducible rfl); simp only [Act.put, List.setIfInBounds_toArray, List.set_cons_zero, List.set_cons_succ])))
                refine det_nil ?_
                rintro W10 ⟨_, hB, _⟩
                go_wp2_with fail
                go_ret
                exact ⟨rfl, by rw [← HN.out]; exact hB⟩
      · have t3 : decide (400 < (z : Int)) = true := by simp; omega
        go_wp2_with (first | (go_at_call 16; refine hnew.mono ?_; rintro e w2 ⟨b, u, rfl, hSh, hbw, hb2⟩) | (go_at_call 17; refine (hrs _).mono ?_; rintro e w3 ⟨rfl, rfl⟩))
        go_ret
        exact ⟨rfl, hb1.trans (hb2.mono hb1.size)⟩
    · have t3 : decide (s = 0) = false := by simpa using hs0
      have hnew := plane_new_no cols rows s hs hs0 w1
      clear hs
      go_wp2_with (first | (go_at_call 16; refine hnew.mono ?_; rintro e w2 ⟨rfl, rfl⟩) | (go_at_call 17; refine (hrs _).mono ?_; rintro e w2 ⟨rfl, rfl⟩))
      go_ret
      exact ⟨rfl, hb1⟩
  · have t12 : decide (50 < (xs.length : Int)) = true ∨ decide (50 < (xs.length : Int)) = false ∧ decide (bl.length < xs.length) = true := by simp; omega
    rcases t12 with t1 | ⟨t1, t2⟩
    all_goals
      go_enter Try.func5, Try.ntmps5
      go_upto_region 2 with (go_at_call 9; refine (awake10 _).mono ?_; rintro e w1 ⟨rfl, hb1⟩)
      go_wp2_with (go_at_call 9; refine (awake10 _).mono ?_; rintro e w2 ⟨rfl, hb2⟩)
      go_ret
      exact ⟨rfl, hb1.trans (hb2.mono hb1.size)⟩
end planeSheets
theorem planeSheets.core (a0 a1 : Int) (v2 : Value) (a2 : List RectArg) (v3 : Value) (a3 : List (List Int)) (_w0 : (Lit.int .i64 a0).wf = true) (_w1 : (Lit.int .i64 a1).wf = true) (W : World) (s2 : IsRects W v2 a2) (s3 : IsBlocks W v3 a3) :
    Calls Try.prog 5 #[.int .i64 a0, .int .i64 a1, v2, v3] W fun e w' => e = .returned (.bool true) ∧ Below W.heap.size W w' := planeSheets.walk a0 a1 v2 v3 a2 a3 W s2 s3
end Go.Proofs.Ytpjocfcemjdneaa
