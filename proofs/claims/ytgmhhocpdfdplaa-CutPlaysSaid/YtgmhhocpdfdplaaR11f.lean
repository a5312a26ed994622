/- The reference's Frame of an image, walked. -/
import Derived.Test.YtgmhhocpdfdplaaR11n
import Derived.Test.YtgmhhocpdfdplaaGG
namespace Go.Proofs.Ytgmhhocpdfdplaa
open Go.RowKit
set_option maxRecDepth 100000
set_option maxHeartbeats 4000000
def PrRow (w : World) (N : Nat) (u : Value) (cs : List CompArg) (k : Nat) : Prop := Row w N 112 2 u k ((psOf (cs.take k)).map partC).flatten
theorem PrRow.step {w : World} {N : Nat} {u : Value} {cs : List CompArg} {k : Nat} (hk : k < cs.length)
    (h : Row w N 112 2 u (k + 1) (((psOf (cs.take k)).map partC).flatten ++ [.int .i64 (cs[k]'hk).h, .int .i64 (cs[k]'hk).v])) : PrRow w N u cs (k + 1) := by
  unfold PrRow
  have e : ((psOf (cs.take (k + 1))).map partC).flatten = ((psOf (cs.take k)).map partC).flatten ++ [.int .i64 (cs[k]'hk).h, .int .i64 (cs[k]'hk).v] := by
    unfold psOf
    rw [List.take_succ_eq_append_getElem hk, List.map_append, List.map_append, List.flatten_append]
    simp only [List.map_cons, List.map_nil, List.flatten_cons, List.flatten_nil, partC, List.append_nil]
  rw [e]
  exact h
/-- The image in block N, the result's block behind it, the parts so far. -/
structure FrJ (N : Nat) (x : ImgArg) (u : Value) (k : Nat) (w W : World) : Prop where
  bN : Blk W N #[.int .i64 x.w, .int .i64 x.h, x.cu, x.qu, x.tu] 26
  bR : Blk W (N + 1) #[.int .i64 0, .int .i64 0, .int .i64 0, .int .i64 0, .slice none 0 0, .slice none 0 0] 44
  row : PrRow W N u x.cs k
  hB : Below N w W
theorem FrJ.below {N : Nat} {x : ImgArg} {u : Value} {k : Nat} {w W W' : World} (h : FrJ N x u k w W) (hb : Below W.heap.size W W') : FrJ N x u k w W' :=
  ⟨h.bN.below hb h.bN.lt, h.bR.below hb h.bR.lt, Row.grow h.row hb, h.hB.trans (hb.mono (Nat.le_of_lt h.bN.lt))⟩
theorem ref_frame (x : ImgArg) (w : World) (h : IsImg w x.val x) (hf : x.cs.length ≤ 20) :
    Calls Try.prog 25 #[x.val] w fun r w' => RefNew x.w x.h (psOf x.cs) w.heap.size r w' ∧ Below w.heap.size w w' := by
  obtain ⟨cb, ccap, hcu⟩ : ∃ b cap, x.cu = .slice b x.cs.length cap := h.cs.len
  have HCU := Lib.hid hcu
  unfold ImgArg.val at *
  have hlp : (psOf x.cs).length = x.cs.length := by simp [psOf]
  have HNEW := Lib.hid (fun pb cap W hp => ref_new x.w x.h pb cap (psOf x.cs) (by rw [hlp]; omega) W hp)
  rw [hlp] at HNEW
  obtain ⟨N, hN⟩ : ∃ N, N = w.heap.size := ⟨_, rfl⟩
  have HN := Lib.hid hN
  rw [← hN]
  have HCS := Lib.hid (fun W (hb : Below N w W) => (show IsComps W (.slice cb x.cs.length ccap) x.cs by rw [← hcu]; exact h.cs.below (by rw [← hN]; exact hb)))
  clear hN hlp hcu h
  go_enter Try.func25, Try.ntmps25
  go_upto_region 1 with fail
  rw [← HN.out]
  refine wp_world (fun W => FrJ N x (.slice none 0 0) 0 w W) ⟨(Blk.new' _ _ _ HN.out).alloc _, Blk.new' _ _ _ (by rw [HN.out]; simp), Row.nil _ _ _ _, by rw [HN.out]; exact ((Below.refl _ _).alloc (Nat.le_refl _) _).alloc (by simp) _⟩ ?_
  intro W0 hI
  go_wp2
  go_loopw [5, 4] (fun iv uv wr => ∃ k : Nat, k ≤ x.cs.length ∧ iv = .int .i64 k ∧ FrJ N x uv k w wr) (fun iv _ _ => x.cs.length - (intOf iv).toNat)
  case atStart => exact ⟨0, Nat.zero_le _, rfl, hI⟩
  case round =>
    clear hI
    obtain ⟨k, hk, rfl, hI⟩ := hrel
    obtain ⟨bu, cu, rfl⟩ := Row.len hI.row
    have p2 : wr.cell? ⟨N, 2, none⟩ = some (.slice cb x.cs.length ccap) := by rw [← HCU.out]; exact hI.bN.cell 2
    by_cases hlt : k < x.cs.length
    · have tl : decide (k < x.cs.length) = true := by simpa using hlt
      obtain ⟨a, rfl, -⟩ := (HCS.out wr hI.hB).at hlt
      have j0 : (0 : Int) ≤ (k : Int) := by omega
      have j1 : (k : Int) < (x.cs.length : Int) := by omega
      have HP2 := Lib.hid (fun W (h : FrJ N x (.slice bu k cu) k w W) => (show W.cell? ⟨N, 2, none⟩ = some (.slice (some a) x.cs.length ccap) by rw [← HCU.out]; exact h.bN.cell 2))
      have HC := Lib.hid (fun W (h : FrJ N x (.slice bu k cu) k w W) => (show W.cell? ⟨(a.add (k * 7)).block, (a.add (k * 7)).off + 1, none⟩ = some (.int .i64 (x.cs[k]'hlt).h) ∧ W.cell? ⟨(a.add (k * 7)).block, (a.add (k * 7)).off + 2, none⟩ = some (.int .i64 (x.cs[k]'hlt).v) by
        obtain ⟨a', ha', -, c1, c2, -⟩ := (HCS.out W h.hB).at hlt
        cases ha'
        exact ⟨c1, c2⟩))
      have hGm : ∀ W W', FrJ N x (.slice bu k cu) k w W → Below W.heap.size W W' → FrJ N x (.slice bu k cu) k w W' := fun W W' h hb => h.below hb
      go_upto_region 5 with fail
      refine wp_region_mono [0, 1, 2, 3, 4, 5, 6, 7, 8, 9, 10, 11, 12, 13, 14] [15, 16] (fun W => FrJ N x (.slice bu k cu) k w W)
        (fun | 14 => some (sSlice 1 #[.int .i64 (x.cs[k]'hlt).h, .int .i64 (x.cs[k]'hlt).v] 112) | _ => none) (fun _ => []) (by kernel_rfl) (by kernel_rfl) (hI.below (Below.refl _ _).drew) ?_ ?_
      · intro i s hs
        match i with
        | 14 => cases hs; exact fun _ _ => sSlice_mono _ _ _ _ _
      simp only [pick, List.getD_cons_succ, List.getD_cons_zero, List.zip_cons_cons, List.zip_nil_right]
      iterate 2 (first | (refine mono_skip (by rfl) ?_; simp only [Act.put, List.setIfInBounds_toArray, List.set_cons_zero, List.set_cons_succ]) | (refine mono_pure (v := ?_) (by rfl) rfl ?_ ?_; rotate_left; (intro wS hS; go_simp; try with_reducible rfl); simp only [Act.put, List.setIfInBounds_toArray, List.set_cons_zero, List.set_cons_succ]))
      refine mono_pure (v := .slice (some a) x.cs.length ccap) (by rfl) rfl (fun w1 hG => by have cy := HP2.out w1 hG; go_simp; try with_reducible rfl) ?_
      simp only [Act.put, List.setIfInBounds_toArray, List.set_cons_zero, List.set_cons_succ]
      iterate 3 (first | (refine mono_skip (by rfl) ?_; simp only [Act.put, List.setIfInBounds_toArray, List.set_cons_zero, List.set_cons_succ]) | (refine mono_pure (v := ?_) (by rfl) rfl ?_ ?_; rotate_left; (intro wS hS; go_simp; try with_reducible rfl); simp only [Act.put, List.setIfInBounds_toArray, List.set_cons_zero, List.set_cons_succ]))
      refine mono_pure (v := .int .i64 (x.cs[k]'hlt).h) (by rfl) rfl (fun w1 hG => by have cy := (HC.out w1 hG).1; go_simp; try with_reducible rfl) ?_
      simp only [Act.put, List.setIfInBounds_toArray, List.set_cons_zero, List.set_cons_succ]
      (first | (refine mono_skip (by rfl) ?_; simp only [Act.put, List.setIfInBounds_toArray, List.set_cons_zero, List.set_cons_succ]) | (refine mono_pure (v := ?_) (by rfl) rfl ?_ ?_; rotate_left; (intro wS hS; go_simp; try with_reducible rfl); simp only [Act.put, List.setIfInBounds_toArray, List.set_cons_zero, List.set_cons_succ]))
      refine mono_pure (v := .slice (some a) x.cs.length ccap) (by rfl) rfl (fun w1 hG => by have cy := HP2.out w1 hG; go_simp; try with_reducible rfl) ?_
      simp only [Act.put, List.setIfInBounds_toArray, List.set_cons_zero, List.set_cons_succ]
      iterate 3 (first | (refine mono_skip (by rfl) ?_; simp only [Act.put, List.setIfInBounds_toArray, List.set_cons_zero, List.set_cons_succ]) | (refine mono_pure (v := ?_) (by rfl) rfl ?_ ?_; rotate_left; (intro wS hS; go_simp; try with_reducible rfl); simp only [Act.put, List.setIfInBounds_toArray, List.set_cons_zero, List.set_cons_succ]))
      refine mono_pure (v := .int .i64 (x.cs[k]'hlt).v) (by rfl) rfl (fun w1 hG => by have cy := (HC.out w1 hG).2; go_simp; try with_reducible rfl) ?_
      simp only [Act.put, List.setIfInBounds_toArray, List.set_cons_zero, List.set_cons_succ]
      (first | (refine mono_skip (by rfl) ?_; simp only [Act.put, List.setIfInBounds_toArray, List.set_cons_zero, List.set_cons_succ]) | (refine mono_pure (v := ?_) (by rfl) rfl ?_ ?_; rotate_left; (intro wS hS; go_simp; try with_reducible rfl); simp only [Act.put, List.setIfInBounds_toArray, List.set_cons_zero, List.set_cons_succ]))
      refine mono_slice 1 #[.int .i64 (x.cs[k]'hlt).h, .int .i64 (x.cs[k]'hlt).v] 112 (by rfl) rfl hGm (by intro wS; go_simp; try rfl) (fun g2 => ?_)
      simp only [Act.put, List.setIfInBounds_toArray, List.set_cons_zero, List.set_cons_succ]
      refine mono_nil ?_
      clear hI p2
      rintro W9 hI ⟨hbs, I, hI1, hI2⟩
      obtain ⟨i1, i2, i3, ⟨g, hg, i4, i5, i6⟩⟩ := hI1 14 _ (upd_self _ _ _)
      obtain rfl : g2 = g := by simpa using hg
      have hNl := hI.bN.lt
      clear hI1 hI2 hGm
      go_wp2_with (refine wpList_append_Row _ rfl _ _ 41 rfl N 112 _ _ 2 16 rfl rfl rfl rfl rfl rfl _ _ _ rfl hI.row _ 1 1 [.int .i64 (x.cs[k]'hlt).h, .int .i64 (x.cs[k]'hlt).v] rfl (by omega) rfl (i6.cells) (by intro u hu; simp at hu; rcases hu with rfl | rfl <;> rfl) (by simp only [maxLen]; omega) (by omega) (by omega) (fun v' w2 hR1 hg hat => ?_))
      refine ⟨⟨k + 1, by omega, by go_num, ⟨hI.bN.grown hg (fun e => hI.row.typed hI.bN (by decide) N e.symm rfl), hI.bR.grown hg (fun e => hI.row.typed hI.bR (by decide) (N + 1) e.symm rfl), PrRow.step hlt hR1, Below.grown hI.hB (Nat.le_of_lt hNl) hg (fun g e => (hI.row.lt g e).1)⟩⟩, by simp [intOf]; omega⟩
    · obtain rfl : k = x.cs.length := by omega
      have tl : decide (x.cs.length < x.cs.length) = false := by simp
      have hp : IsParts wr (.slice bu x.cs.length cu) (psOf x.cs) := by
        have hr := hI.row
        unfold PrRow at hr
        rw [List.take_length] at hr
        exact Ar.elems hr.ar (fun c hc => by obtain ⟨p, _, rfl⟩ := List.mem_map.1 hc; rfl) (by simp [psOf]) (by simp only [maxLen]; omega)
      have hn := HNEW.out _ _ _ hp
      have q0 := hI.bN.cell 0
      have q1 := hI.bN.cell 1
      clear hp
      have hNl : N ≤ wr.heap.size := Nat.le_of_lt hI.bN.lt
      have HB := Lib.hid hI.hB
      have bR := hI.bR
      have hR0 := hI.bR.lt
      have fin : ∀ w5, Below wr.heap.size wr w5 → Blk w5 (N + 1) #[.int .i64 0, .int .i64 0, .int .i64 0, .int .i64 0, .slice none 0 0, .slice none 0 0] 44 ∧ Below N w w5 := fun w5 hb => ⟨hI.bR.below hb hI.bR.lt, hI.hB.trans (hb.mono hNl)⟩
      have FIN := Lib.hid fin
      clear fin hI
      by_cases h0 : newE x.w x.h (psOf x.cs) = 0
      · have H0 := Lib.hid h0
        clear h0
        go_wp2_with (first | (go_at_call 70; refine hn.mono ?_; rintro r w5 ⟨⟨v, rfl, -, hv⟩, hb5⟩; obtain ⟨u, gv, rfl, hu, hg⟩ := hv H0.out; obtain ⟨ub, uc, rfl⟩ := hu.len; obtain ⟨gb, gc, rfl⟩ := hg.len; obtain ⟨bR5, hB5⟩ := FIN.out w5 hb5) | (refine wpList_store_row rfl 44 _ _ rfl (N + 1) _ rfl rfl 44 _ bR5 (by kernel_rfl) rfl (by simp [Value.oneCell']) ?_))
        refine bodyPost_ret (results_row_tmp rfl _ _ (N + 1) 44 _ _ rfl (bR5.row _) Try.underlying44 rfl (by kernel_rfl)) rfl ?_
        exact ⟨⟨_, rfl, fun h => absurd H0.out h, fun _ => ⟨_, _, rfl, (hu.down hNl).same fun g e => setRow_other _ _ _ _ (hu.typed bR5 (by decide) g e), (hg.down hNl).same fun g e => setRow_other _ _ _ _ (hg.typed bR5 (by decide) g e)⟩⟩, Below.setRow hB5 (Nat.le_succ N) _⟩
      · have H0 := Lib.hid h0
        clear h0
        go_wp2_with (first | (go_at_call 70; refine hn.mono ?_; rintro r w5 ⟨⟨v, rfl, hv, -⟩, hb5⟩; obtain rfl := hv H0.out; obtain ⟨bR5, hB5⟩ := FIN.out w5 hb5; unfold zeroRF) | (refine wpList_store_row rfl 44 _ _ rfl (N + 1) _ rfl rfl 44 _ bR5 (by kernel_rfl) rfl (by simp [Value.oneCell']) ?_))
        refine bodyPost_ret (results_row_tmp rfl _ _ (N + 1) 44 _ _ rfl (bR5.row _) Try.underlying44 rfl (by kernel_rfl)) rfl ?_
        exact ⟨⟨_, rfl, fun _ => rfl, fun h => absurd h H0.out⟩, Below.setRow hB5 (Nat.le_succ N) _⟩
end Go.Proofs.Ytgmhhocpdfdplaa
