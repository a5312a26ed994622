/- aquatintlaw11.ImageBlocks, walked. -/
import Derived.Test.YtgmhhocpdfdplaaBefo
import Derived.Test.YtgmhhocpdfdplaaGG
namespace Go.Proofs.Ytgmhhocpdfdplaa
open Go.RowKit Go.Shelf
attribute [local go_sem] Oper.semAt_some
set_option maxRecDepth 100000
namespace imageBlocks
/-- Between two rounds: component c, block k of it, n blocks have come; boxes: the image, the stop, the result, c, k, n. -/
structure Rd (N A : Nat) (st : Int) (x : ImgArg) (w : World) (c k n : Nat) (W : World) : Prop where
  bC : Blk W A #[.int .i64 c] 3
  bK : Blk W (A + 1) #[.int .i64 k] 3
  bM : Blk W (A + 1 + 1) #[.int .i64 n] 3
  bN : Blk W N #[.int .i64 x.w, .int .i64 x.h, x.cu, x.qu, x.tu] 26
  bS : Blk W (N + 1) #[.int .u8 st] 5
  bR : Blk W (N + 1 + 1) #[.bool false] 4
  hB : Below N w W
theorem blk_ne {W : World} {g k : Nat} {cs ds : Array Value} {t t' : TypeId} (h : Blk W g cs t) (h' : Blk W k ds t') (ht : t ≠ t') : g ≠ k := by
  rintro rfl
  have := h.symm.trans h'
  simp at this
  exact ht this.2
theorem blk_ot {W : World} {g k : Nat} {cs : Array Value} {t : TypeId} (h : Blk W g cs t) (hk : g ≠ k) (v : Value) : Blk (W.setCell ⟨k, 0, none⟩ v) g cs t := h.other _ _ hk
section
variable {N A : Nat} {st : Int} {x : ImgArg} {w : World} {c k n : Nat} {W W' : World}
theorem Rd.below (h : Rd N A st x w c k n W) (hb : Below W.heap.size W W') : Rd N A st x w c k n W' :=
  ⟨h.bC.below hb h.bC.lt, h.bK.below hb h.bK.lt, h.bM.below hb h.bM.lt, h.bN.below hb h.bN.lt, h.bS.below hb h.bS.lt, h.bR.below hb h.bR.lt, h.hB.trans (hb.mono (Nat.le_of_lt h.bN.lt))⟩
theorem Rd.setC (h : Rd N A st x w c k n W) (hA : N + 1 + 1 < A) (z : Nat) : Rd N A st x w z k n (W.setCell ⟨A, 0, none⟩ (.int .i64 z)) :=
  ⟨h.bC.set 0 _, blk_ot h.bK (by omega) _, blk_ot h.bM (by omega) _, blk_ot h.bN (by omega) _, blk_ot h.bS (by omega) _, blk_ot h.bR (by omega) _, h.hB.setCell (p := ⟨A, 0, none⟩) (by show N ≤ A; omega) _⟩
theorem Rd.setK (h : Rd N A st x w c k n W) (hA : N + 1 + 1 < A) (z : Nat) : Rd N A st x w c z n (W.setCell ⟨A + 1, 0, none⟩ (.int .i64 z)) :=
  ⟨blk_ot h.bC (by omega) _, h.bK.set 0 _, blk_ot h.bM (by omega) _, blk_ot h.bN (by omega) _, blk_ot h.bS (by omega) _, blk_ot h.bR (by omega) _, h.hB.setCell (p := ⟨A + 1, 0, none⟩) (by show N ≤ A + 1; omega) _⟩
theorem Rd.setM (h : Rd N A st x w c k n W) (hA : N + 1 + 1 < A) (z : Nat) : Rd N A st x w c k z (W.setCell ⟨A + 1 + 1, 0, none⟩ (.int .i64 z)) :=
  ⟨blk_ot h.bC (by omega) _, blk_ot h.bK (by omega) _, h.bM.set 0 _, blk_ot h.bN (by omega) _, blk_ot h.bS (by omega) _, blk_ot h.bR (by omega) _, h.hB.setCell (p := ⟨A + 1 + 1, 0, none⟩) (by show N ≤ A + 1 + 1; omega) _⟩
end
theorem offB_le {x : ImgArg} (h : ∀ c ∈ x.cs, c.bs.length ≤ 20000) : ∀ c, offB x c ≤ 20000 * c
  | 0 => Nat.le_refl _
  | c + 1 => by
    have h1 := offB_le h c
    have h2 : lenB x c ≤ 20000 := by
      unfold lenB
      by_cases hc : c < x.cs.length
      · rw [comp_getD hc]
        exact h _ (List.getElem_mem hc)
      · rw [List.getD_eq_getElem?_getD, List.getElem?_eq_none (by omega)]
        exact Nat.zero_le _
    rw [offB_succ]
    omega
/-- A slice's capacity. -/
def capN : Value → Nat
  | .slice _ _ c => c
  | _ => 0
/-- What stands between two rounds. -/
structure Iv (N A : Nat) (st : Int) (x : ImgArg) (w : World) (pre : List (Nat × Nat)) (W : World) : Prop where
  ex : ∃ c k, c ≤ x.cs.length ∧ k ≤ lenB x c ∧ offB x c + k = pre.length ∧ Rd N A st x w c k pre.length W
theorem Iv.own (N A : Nat) (st : Int) (x : ImgArg) (w : World) (B : Nat) (hw : N ≤ w.heap.size) (hB : N ≤ B) : OwnFrom B (Iv N A st x w) := by
  intro s X Y row hs hg hr
  obtain ⟨c, k, h1, h2, h3, h⟩ := hs.ex
  have hc := CellsOf.of hg (fun r e => (hr r e).2)
  exact ⟨c, k, h1, h2, h3, hc.blk h.bC, hc.blk h.bK, hc.blk h.bM, hc.blk h.bN, hc.blk h.bS, hc.blk h.bR, ownFrom_below (β := Unit) hw hB () X Y row h.hB hg hr⟩
/-- A round has left. -/
structure Out (N : Nat) (w : World) (cd : Code) (pre : List (Nat × Nat)) (W : World) : Prop where
  cd : cd = .ret
  res : Blk W (N + 1 + 1) #[.bool true] 4
  hB : Below N w W
theorem Out.own (N : Nat) (w : World) (cd : Code) (B : Nat) (hw : N ≤ w.heap.size) (hB : N ≤ B) : OwnFrom B (Out N w cd) := by
  intro s X Y row hs hg hr
  have hc := CellsOf.of hg (fun r e => (hr r e).2)
  exact ⟨hs.cd, hc.blk hs.res, ownFrom_below (β := Unit) hw hB () X Y row hs.hB hg hr⟩
/-- What a round's loop variables are. -/
structure Lv (x : ImgArg) (t : Array Value) (pre : List (Nat × Nat)) (p : Nat × Nat) (a : Act) (W : World) : Prop where
  ex : ∃ b1 b2, Blk W b1 #[.int .i64 p.1, .int .i64 ((p.2 : Int) / ((x.cs.getD p.1 noComp).c.toNat : Int)), .int .i64 ((p.2 : Int) % ((x.cs.getD p.1 noComp).c.toNat : Int))] 54 ∧ Blk W b2 (ints .i16 (Pl.blk (x.cs.getD p.1 noComp).bs p.2)) 57 ∧
    a = { tmps := [(23, .agg #[.int .i64 p.1, .int .i64 ((p.2 : Int) / ((x.cs.getD p.1 noComp).c.toNat : Int)), .int .i64 ((p.2 : Int) % ((x.cs.getD p.1 noComp).c.toNat : Int))]), (24, .agg (ints .i16 (Pl.blk (x.cs.getD p.1 noComp).bs p.2))), (8, .pointer (some ⟨b1, 0, none⟩)), (9, .pointer (some ⟨b2, 0, none⟩))].foldl (fun t (p : Nat × Value) => t.setIfInBounds p.1 p.2) t, defers := [] }
  at' : AtB x pre p
theorem Lv.own (x : ImgArg) (t : Array Value) (pre : List (Nat × Nat)) (p : Nat × Nat) (a : Act) (B : Nat) : OwnFrom B (fun (_ : Unit) W => Lv x t pre p a W) := by
  intro s X Y row hs hg hr
  have hc := CellsOf.of hg (fun r e => (hr r e).2)
  obtain ⟨b1, b2, h1, h2, h3⟩ := hs.ex
  exact ⟨⟨b1, b2, hc.blk h1, hc.blk h2, h3⟩, hs.at'⟩
set_option maxHeartbeats 16000000 in
theorem walk (st : Int) (hst : 0 ≤ st) (hst2 : st ≤ 255) (x : ImgArg) (v : Value) (w : World) (h : IsImg w v x) :
    Calls Try.prog 6 #[v, .int .u8 st] w fun e w' => e = .returned (.bool true) ∧ Below w.heap.size w w' := by
  have hv := h.val
  subst hv
  have HI := Lib.hid h
  have hL := LI.begin h
  obtain ⟨N, hN⟩ : ∃ N, N = w.heap.size := ⟨_, rfl⟩
  rw [← hN] at hL ⊢
  have HN := Lib.hid hN
  have hsm := fun W h => law_small (.agg #[.int .i64 x.w, .int .i64 x.h, x.cu, x.qu, x.tu]) x W h
  unfold ImgArg.val
  clear hN h
  refine (callsIn_wide (n := 9)).1 ?_
  refine callsIn_of_wp_marks Try.func6 rfl trivial ?_ rfl
  simp only [Try.ntmps6, List.size_toArray, List.length_cons, List.length_nil, Nat.reduceAdd, Nat.reduceSub, Array.replicate_succ, Array.replicate_zero, List.push_toArray, List.append_toArray, List.nil_append, List.cons_append]
  refine wpIn_wide.2 ?_
  go_upto_region 1 with fail
  have hbe : Below (w.heap.size + 1) (w.alloc (.cells #[.int .i64 x.w, .int .i64 x.h, x.cu, x.qu, x.tu] 26)) (((w.alloc (.cells #[.int .i64 x.w, .int .i64 x.h, x.cu, x.qu, x.tu] 26)).alloc (.cells #[.int .u8 st] 5)).alloc (.cells #[.bool false] 4)) := ((Below.refl _ _).alloc (by simp) _).alloc (by simp) _
  refine wp_world (fun W => LI N x w W ∧ Blk W (N + 1) #[.int .u8 st] 5 ∧ Blk W (N + 1 + 1) #[.bool false] 4) ⟨hL.below (by simpa using hbe), (Blk.new' _ _ _ (by rw [HN.out]; simp)).alloc _, Blk.new' _ _ _ (by rw [HN.out]; simp)⟩ ?_
  rw [← HN.out]
  clear hL hbe
  rintro W0 ⟨hL, bS, bR⟩
  go_upto_region 3 with (first
    | (go_at_call 18; refine (awake11a _).mono ?_; rintro e w1 ⟨rfl, hb1⟩; replace hL := hL.below hb1; replace bS := bS.below hb1 bS.lt; replace bR := bR.below hb1 bR.lt; have r3 := bR.cell 0; have f3 := bR.free 0; have p0 := hL.bN.cell 0; have p1 := hL.bN.cell 1; have p2 := hL.bN.cell 2; have p3 := hL.bN.cell 3; have p4 := hL.bN.cell 4)
    | (go_at_call 19; refine (hsm _ hL.img).mono ?_; rintro e w2 ⟨rfl | ⟨rfl, hf⟩, hb2⟩; all_goals (replace hL := hL.below hb2; replace bS := bS.below hb2 bS.lt; replace bR := bR.below hb2 bR.lt)))
  · refine leave_plain (results_box rfl _ _ (N + 1 + 1) _ _ rfl (bR.set 0 _) (load_bool _ _ ⟨_, rfl⟩)) ?_
    have hBN : Below N w w1 := by rw [HN.out]; exact hL.hB
    exact ⟨rfl, hBN.setCell (p := ⟨N + 1 + 1, 0, none⟩) (by show N ≤ N + 1 + 1; omega) _⟩
  obtain ⟨A, hA⟩ : ∃ A, A = w2.heap.size := ⟨_, rfl⟩
  have HA := Lib.hid hA
  have hRA : N + 1 + 1 < A := by rw [hA]; exact bR.lt
  clear hA hsm hb1 hb2 p0 p1 p2 p3 p4 r3 f3
  go_upto_region 4 with fail
  have hbe : Below w2.heap.size w2 (((w2.alloc (.cells #[.int .i64 0] 3)).alloc (.cells #[.int .i64 0] 3)).alloc (.cells #[.int .i64 0] 3)) := (((Below.refl _ _).alloc (Nat.le_refl _) _).alloc (by simp) _).alloc (by simp; omega) _
  have hLb := hL.below hbe
  refine wp_world (fun W => Rd N A st x w 0 0 0 W) ⟨((Blk.new' _ _ _ HA.out).alloc _).alloc _, (Blk.new' _ _ _ (by rw [HA.out]; simp)).alloc _, Blk.new' _ _ _ (by rw [HA.out]; simp), hLb.bN, bS.below hbe bS.lt, bR.below hbe bR.lt, by rw [HN.out]; exact hLb.hB⟩ ?_
  rw [← HA.out]
  clear hLb hbe hL bS bR HA
  intro W3 hI
  have hfn := fun V => image_blocks x V
  unfold ImgArg.val at hfn
  go_wp2_with (first
    | (refine wpList_load_row rfl 26 _ rfl N rfl 26 _ _ _ hI.bN Try.underlying26 rfl (by kernel_rfl) ?_)
    | (go_at_call 28; refine (hfn _).mono ?_; rintro e w4 ⟨rfl, rfl⟩))
  obtain ⟨B, hBn⟩ : ∃ B, B = W3.heap.size := ⟨_, rfl⟩
  try rw [← hBn]
  have hCB : A + 1 + 1 < B := by rw [hBn]; exact hI.bM.lt
  have hb4 : Below W3.heap.size W3 (W3.alloc (.cells #[.int .i64 x.w, .int .i64 x.h, x.cu, x.qu, x.tu] 26)) := (Below.refl _ _).alloc (Nat.le_refl _) _
  refine wp_world (fun W => Blk W B #[.int .i64 x.w, .int .i64 x.h, x.cu, x.qu, x.tu] 26 ∧ Rd N A st x w 0 0 0 W) ⟨Blk.new' _ _ _ hBn, hI.below hb4⟩ ?_
  clear hBn hb4 hI hfn
  rintro W4 ⟨bB, hI⟩
  have hNw : N ≤ w.heap.size := by rw [HN.out]; exact Nat.le_refl _
  have hBW := bB.lt
  have hseq := fun n => image_hands n x hf N B B w W4 HN.out HI.out hI.hB (Nat.le_refl _) (by omega) bB
  refine wp_rangeFunc_w (n := 9) (Kp := KB2 N B) (fun h k => h.trans k) (fun W l o o' hl ho hc => ⟨KeepC.put _ _ _ _ ho hc, ⟨rfl, rfl, rfl, by simp, fun k hk => World.putObj_heap_other (by omega)⟩⟩) (fun U U' hs hb => ⟨KeepC.below hb, hb.mono (by omega)⟩)
    (by omega) (gf := 76) (lb := #[.pointer (some ⟨B, 0, none⟩)]) rfl (enters_of Try.func76 (by kernel_rfl) rfl) (hseq _) (fun _ => rfl)
    (Iv N A st x w) (Out N w) (Iv.own _ _ _ _ _ _ hNw (by omega)) (fun cd => Out.own _ _ cd _ hNw (by omega)) ⟨0, 0, Nat.zero_le _, Nat.zero_le _, rfl, hI⟩
    (Lv x) (fun t pre p a => Lv.own x t pre p a _) ?assign ?body ?done ?stop
  case assign =>
    rintro l pre ⟨c, k⟩ W K hIv hV hK
    have hx64 : (Pl.blk (x.cs.getD c noComp).bs k).length = 64 := by
      have hok := HI.out.cs.ok _ (List.getElem_mem hV.c)
      have := Pl.blk_len hok.h64 k
      rwa [comp_getD hV.c]
    unfold encB
    simp only
    obtain ⟨y, hy⟩ : ∃ y, Pl.blk (x.cs.getD c noComp).bs k = y := ⟨_, rfl⟩
    obtain ⟨z1, hz1⟩ : ∃ z : Int, (k : Int) / ((x.cs.getD c noComp).c.toNat : Int) = z := ⟨_, rfl⟩
    obtain ⟨z2, hz2⟩ : ∃ z : Int, (k : Int) % ((x.cs.getD c noComp).c.toNat : Int) = z := ⟨_, rfl⟩
    rw [hy] at hx64
    rw [hy, hz1, hz2]
    have HY := Lib.hid hy
    have HZ1 := Lib.hid hz1
    have HZ2 := Lib.hid hz2
    have bZ1 : Blk (W.alloc (.cells #[.int .i64 0, .int .i64 0, .int .i64 0] 54)) W.heap.size #[.int .i64 0, .int .i64 0, .int .i64 0] 54 := Blk.new _ _ _
    clear hy hz1 hz2
    gi_wp2_with (first
      | (refine wpListIn_store_row ⟨some l, rfl⟩ rfl 54 _ _ rfl W.heap.size _ rfl rfl 54 _ bZ1 (by kernel_rfl) rfl (by simp [Value.oneCell']) ?_)
      | (refine wpListIn_store_row ⟨some l, rfl⟩ rfl 57 _ _ rfl (W.heap.size + 1) (ints .i16 y) rfl rfl 57 _ (Blk.new' _ (ints .i16 (List.replicate 64 0)) _ (by simp)) (by rw [ints_size, hx64]; kernel_rfl) (by rw [ints_size, ints_size, hx64]; rfl) (ints_one _ _) ?_))
    have hB1 : Below W.heap.size W ((W.alloc (.cells #[.int .i64 0, .int .i64 0, .int .i64 0] 54)).setRow W.heap.size #[.int .i64 c, .int .i64 z1, .int .i64 z2]) := Below.setRow ((Below.refl _ _).alloc (Nat.le_refl _) _) (Nat.le_refl _) _
    have hB2 := Below.setRow (hB1.alloc (by simp) (.cells (ints .i16 (List.replicate 64 0)) 57)) (g := W.heap.size + 1) (by omega) (ints .i16 y)
    obtain ⟨cq, kq, i1, i2, i3, i4⟩ := hIv.ex
    refine hK _ _ hB2 ⟨cq, kq, i1, i2, i3, i4.below hB2⟩ ⟨⟨W.heap.size, W.heap.size + 1, ?_, ?_, by simp only [HY.out, HZ1.out, HZ2.out]; rfl⟩, hV⟩
    · simp only [HZ1.out, HZ2.out]
      exact ((bZ1.row _).alloc _).rowOther _ _ (by omega)
    · simp only [HY.out]
      exact (Blk.new' _ (ints .i16 (List.replicate 64 0)) _ (by simp)).row _
  case body =>
    rintro l pre ⟨c2, k2⟩ a' W hl hsz hIv ⟨⟨b1, b2, hb1, hb2, rfl⟩, hat⟩
    obtain ⟨c0, k0, hq1, hq2, hq3, hR⟩ := hIv.ex
    simp only at hb1 hb2
    simp only [List.foldl_cons, List.foldl_nil, List.setIfInBounds_toArray, List.set_cons_zero, List.set_cons_succ]
    have hc2 := hat.c
    simp only at hc2
    obtain ⟨a, hcu, hca⟩ : ∃ a, x.cu = .slice (some a) x.cs.length (capN x.cu) ∧ True := by
      obtain ⟨b, cap, hcu⟩ : ∃ b c, x.cu = .slice b x.cs.length c := HI.out.cs.len
      have hcs := HI.out.cs
      rw [hcu] at hcs
      obtain ⟨a, rfl, _⟩ := hcs.at hc2
      exact ⟨a, by rw [hcu]; rfl, trivial⟩
    obtain ⟨ccap, hcc⟩ : ∃ n, capN x.cu = n := ⟨_, rfl⟩
    rw [hcc] at hcu
    have HCU := Lib.hid hcu
    have HAT := Lib.hid hat
    have HI2 := HI
    have hAB : A + 1 + 1 < B := hCB
    have hNA : N + 1 + 1 < A := hRA
    have hNW4 : N ≤ W4.heap.size := by omega
    have hc20 := hf.c20
    obtain ⟨y, hy⟩ : ∃ y, Pl.blk (x.cs.getD c2 noComp).bs k2 = y := ⟨_, rfl⟩
    obtain ⟨z1, hz1⟩ : ∃ z : Int, (k2 : Int) / ((x.cs.getD c2 noComp).c.toNat : Int) = z := ⟨_, rfl⟩
    obtain ⟨z2, hz2⟩ : ∃ z : Int, (k2 : Int) % ((x.cs.getD c2 noComp).c.toNat : Int) = z := ⟨_, rfl⟩
    rw [hy, hz1, hz2]
    rw [hz1, hz2] at hb1
    rw [hy] at hb2
    have HY := Lib.hid hy
    have HZ1 := Lib.hid hz1
    have HZ2 := Lib.hid hz2
    clear hy hz1 hz2 hcu hcc hca hat hIv hl
    gi_wp2
    gi_loopw [] (fun wr => ∃ c k, c ≤ x.cs.length ∧ k ≤ lenB x c ∧ offB x c + k = pre.length ∧ Rd N A st x w c k pre.length wr ∧ Kp3 N B W4.heap.size W wr ∧ Blk wr b1 #[.int .i64 c2, .int .i64 z1, .int .i64 z2] 54 ∧ Blk wr b2 (ints .i16 y) 57) (fun wr => x.cs.length - boxN wr A)
    case atStart => exact ⟨c0, k0, hq1, hq2, hq3, hR, Kp3.refl _ _ _ _ hsz, hb1, hb2⟩
    case round =>
      clear hR hb1 hb2 hq1 hq2 hq3
      obtain ⟨c, k, hc1, hkl, hof, hR, hkp, hb1, hb2⟩ := hrel
      have hR0 := hR
      have hlt := HAT.out.lt hof hc1
      have hIw : IsImg wr x.val x := HI.out.below (by rw [← HN.out]; exact hR.hB)
      have hcs := hIw.cs
      rw [HCU.out] at hcs
      have hok := hIw.cs.ok _ (List.getElem_mem hlt)
      obtain ⟨ub, ucap, hu, hucap, hucm⟩ := hok.ar.len
      obtain ⟨m, hm⟩ : ∃ m, (x.cs[c]'hlt).bs.length = m := ⟨_, rfl⟩
      have hlm : lenB x c = m := by unfold lenB; rw [comp_getD hlt]; exact hm
      rw [hm] at hu
      rw [hlm] at hkl
      have hm2 : m ≤ 20000 := by rw [← hm]; exact hf.b300 _ (List.getElem_mem hlt)
      have HF := Lib.hid (show ∀ wS, Below wr.heap.size wr wS → wS.cell? ⟨A, 0, none⟩ = some (.int .i64 c) ∧ wS.cell? ⟨A + 1, 0, none⟩ = some (.int .i64 k) ∧ wS.cell? ⟨N, 2, none⟩ = some (.slice (some a) x.cs.length ccap) ∧ wS.cell? ⟨(a.add (c * 7)).block, (a.add (c * 7)).off + 4 + 2, none⟩ = some (.slice ub m ucap) from fun wS hS => by
        obtain ⟨a', he, _, _, _, _, _, _, c6⟩ := (hcs.below hS).at hlt
        cases he
        rw [hu] at c6
        refine ⟨(hR.bC.below hS hR.bC.lt).cell 0, (hR.bK.below hS hR.bK.lt).cell 0, ?_, c6⟩
        have := (hR.bN.below hS hR.bN.lt).cell 2
        rw [HCU.out] at this
        exact this)
      have j0 : (0 : Int) ≤ (c : Int) := by omega
      have j1 : (c : Int) < (x.cs.length : Int) := by omega
      have tl : decide (c < x.cs.length) = true := by simpa using hlt
      have hKB : Below wr.heap.size wr wr.drew := (Below.refl _ _).drew
      have HOK := Lib.hid hok
      have HCS := Lib.hid hcs
      have HM := Lib.hid hm
      have HU := Lib.hid hu
      clear hok hcs hIw hm hu
      gi_wp2
      refine wpIn_region_det (fun W' => Below wr.heap.size wr W') (by kernel_rfl) (by kernel_rfl) (by kernel_rfl) (by rintro ⟨a, w, h⟩; exact h) hKB ?_
      by_cases hkm : k = m
      · subst hkm
        have tk : decide ((k : Int) = (k : Int)) = true := by simp
        iterate 17 (first | (refine det_skip (by rfl) ?_; simp only [Act.put, List.setIfInBounds_toArray, List.set_cons_zero, List.set_cons_succ]) | (refine det_pure (v := ?_) (by rfl) ?_ ?_; rotate_left; (intro wS hS; obtain ⟨f1, f2, f3, f4⟩ := HF.out wS hS; go_simp; try with_reducible rfl); simp only [Act.put, List.setIfInBounds_toArray, List.set_cons_zero, List.set_cons_succ]))
        refine det_nil ?_
        intro W7 hb7
        replace hR := hR.below hb7
        replace hkp := hkp.below hb7 hNW4
        replace hb1 := hb1.below hb7 hb1.lt
        replace hb2 := hb2.below hb7 hb2.lt
        have a1 : W7.cell? ⟨A, 0, none⟩ = some (.int .i64 c) := hR.bC.cell 0
        have f1 := hR.bC.free 0
        have a2 : W7.cell? ⟨A + 1, 0, none⟩ = some (.int .i64 k) := hR.bK.cell 0
        have f2 := hR.bK.free 0
        have n1 : A + 1 ≠ A := by omega
        have hRc := hR.setC hNA (c + 1)
        have hbc1 := blk_ot hb1 (blk_ne hb1 hR.bC (by decide)) (.int .i64 ((c + 1 : Nat) : Int))
        have hbc2 := blk_ot hb2 (blk_ne hb2 hR.bC (by decide)) (.int .i64 ((c + 1 : Nat) : Int))
        have hRk := hRc.setK hNA 0
        have hbk1 := blk_ot hbc1 (blk_ne hbc1 hRc.bK (by decide)) (.int .i64 ((0 : Nat) : Int))
        have hbk2 := blk_ot hbc2 (blk_ne hbc2 hRc.bK (by decide)) (.int .i64 ((0 : Nat) : Int))
        have hkk := (hkp.set (A := A) (by omega) (by omega) (.int .i64 ((c + 1 : Nat) : Int))).set (A := A + 1) (by omega) (by omega) (.int .i64 ((0 : Nat) : Int))
        have HRES := Lib.hid (And.intro hRk (And.intro hkk (And.intro hbk1 hbk2)))
        clear hRc hbc1 hbc2 hRk hbk1 hbk2 hkk hR hkp hb1 hb2 hb7
        gi_wp2
        go_roundw
        case rel => exact ⟨c + 1, 0, hlt, Nat.zero_le _, by rw [offB_succ, hlm]; omega, HRES.out.1, HRES.out.2.1, HRES.out.2.2.1, HRES.out.2.2.2⟩
        case measure =>
          have hz := boxN_of HRES.out.1.bC
          change boxN ((W7.setCell ⟨A, 0, none⟩ (.int .i64 ((c : Int) + 1))).setCell ⟨A + 1, 0, none⟩ (.int .i64 0)) A = c + 1 at hz
          rw [hz, boxN_of hR0.bC]
          omega
      · have tk : decide (k = m) = false := by simpa using hkm
        have tk2 : ((k : Int) == (m : Int)) = false := by simp; omega
        iterate 17 (first | (refine det_skip (by rfl) ?_; simp only [Act.put, List.setIfInBounds_toArray, List.set_cons_zero, List.set_cons_succ]) | (refine det_pure (v := ?_) (by rfl) ?_ ?_; rotate_left; (intro wS hS; obtain ⟨f1, f2, f3, f4⟩ := HF.out wS hS; go_simp; try with_reducible rfl); simp only [Act.put, List.setIfInBounds_toArray, List.set_cons_zero, List.set_cons_succ]))
        refine det_nil ?_
        intro W7 hb7
        replace hR := hR.below hb7
        replace hkp := hkp.below hb7 hNW4
        replace hb1 := hb1.below hb7 hb1.lt
        replace hb2 := hb2.below hb7 hb2.lt
        obtain ⟨rfl, rfl⟩ : c = c2 ∧ k = k2 := HAT.out.at hof (by rw [hlm]; omega)
        have hIw : IsImg W7 x.val x := HI.out.below (by rw [← HN.out]; exact hR.hB)
        have hcs := hIw.cs
        rw [HCU.out] at hcs
        obtain ⟨a', he, e0, e1, e2, e3, e4, e5, e6⟩ := hcs.at hlt
        cases he
        have hget : x.cs[c]'hlt = x.cs.getD c noComp := (comp_getD hlt).symm
        have hok := hIw.cs.ok _ (List.getElem_mem hlt)
        have HU2 := HU
        obtain ⟨K, hK⟩ : ∃ K, K = x.cs[c]'hlt := ⟨_, rfl⟩
        have HM2 := HM
        have hmm := HM.out
        have huu := HU.out
        have hpr := ((right_of_imgE HAT.out.r).plane hlt).1
        rw [← hK] at e4 e5 e6 hget hok hmm huu hpr
        rw [huu] at e6
        have hA := hok.ar
        rw [huu, hmm] at hA
        have h64 := hok.h64
        have hyy := HY.out
        have hzz1 := HZ1.out
        have hzz2 := HZ2.out
        rw [← hget] at hyy hzz1 hzz2
        clear hok hget hK hIw HF hR0
        have a1 : W7.cell? ⟨A, 0, none⟩ = some (.int .i64 c) := hR.bC.cell 0
        have q2 : W7.cell? ⟨N, 2, none⟩ = some (.slice (some a) x.cs.length ccap) := by
          have := hR.bN.cell 2
          rw [HCU.out] at this
          exact this
        obtain ⟨K0, K1, K2, K3, kc, kr, ku, bs⟩ := K
        simp only at e4 e5 e6 hA h64 hyy hzz1 hzz2 hmm huu hpr
        rw [hmm] at hpr
        have tn : decide (x.cs.length ≤ c) = false := by simp; omega
        gi_wp2
        obtain ⟨P, hP⟩ : ∃ P, P = W7.heap.size := ⟨_, rfl⟩
        rw [← hP]
        have hbe : Below W7.heap.size W7 (W7.alloc (.cells #[.int .i64 kc, .int .i64 kr, .slice ub m ucap] 61)) := (Below.refl _ _).alloc (Nat.le_refl _) _
        refine wpIn_world (fun U => Rd N A st x w c k pre.length U ∧ Kp3 N B W4.heap.size W U ∧ Blk U b1 #[.int .i64 c, .int .i64 z1, .int .i64 z2] 54 ∧ Blk U b2 (ints .i16 y) 57 ∧ Blk U P #[.int .i64 kc, .int .i64 kr, .slice ub m ucap] 61 ∧ Ar U 64 (.slice ub m ucap) m (bcells bs)) ⟨hR.below hbe, hkp.below hbe hNW4, hb1.below hbe hb1.lt, hb2.below hbe hb2.lt, Blk.new' _ _ _ hP, hA.below hbe⟩ ?_
        clear hbe hR hkp hb1 hb2 hA hP a1 q2 e0 e1 e2 e3 e4 e5 e6 hcs hb7
        rintro W8 ⟨hR, hkp, hb1, hb2, hbP, hA⟩
        obtain ⟨hc1', hr1⟩ : 1 ≤ kc ∧ 1 ≤ kr := by
          have hr := hpr
          unfold Pl.right at hr
          simp only [Bool.and_eq_true, beq_iff_eq] at hr
          have := Pl.sized_ok hr.1
          omega
        obtain ⟨kc, rfl⟩ : ∃ q : Nat, kc = q := ⟨kc.toNat, by omega⟩
        obtain ⟨kr, rfl⟩ : ∃ q : Nat, kr = q := ⟨kr.toNat, by omega⟩
        rw [Int.toNat_natCast] at hzz1 hzz2
        have hkm2 : k < m := by omega
        have hlx : y.length = 64 := by rw [← hyy]; exact Pl.blk_len h64 k
        have hgp := Pl.blk_get (bs := bs) (i := k) (by rw [hmm]; exact hkm2)
        rw [hyy] at hgp
        have hw1 : IntKind.i64.wrap z1 = z1 := by
          have := IntWalk.i64_quo k kc (by omega)
          rw [Int.tdiv_eq_ediv_of_nonneg (by omega)] at this
          rw [← hzz1, this]
        have hw2 : (k : Int).tmod (kc : Int) = z2 := by rw [Int.tmod_eq_emod_of_nonneg (by omega), hzz2]
        obtain ⟨ad, hub, _⟩ : ∃ ad, ub = some ad ∧ True := by
          obtain ⟨ad, cp, hsl, _, _⟩ := hA.some (by omega)
          simp only [Value.slice.injEq] at hsl
          exact ⟨ad, hsl.1, trivial⟩
        subst hub
        have kn : ¬ kc = 0 := by omega
        have kx0 : (0 : Int) ≤ (k : Int) := by omega
        have kx1 : (k : Int) < (m : Int) := by omega
        have HF := Lib.hid (show ∀ wS, Below W8.heap.size W8 wS → wS.cell? ⟨b1, 0, none⟩ = some (.int .i64 c) ∧ wS.cell? ⟨b1, 1, none⟩ = some (.int .i64 z1) ∧ wS.cell? ⟨b1, 2, none⟩ = some (.int .i64 z2) ∧ wS.cell? ⟨A, 0, none⟩ = some (.int .i64 c) ∧ wS.cell? ⟨A + 1, 0, none⟩ = some (.int .i64 k) ∧ wS.cell? ⟨P, 0, none⟩ = some (.int .i64 kc) ∧ wS.cell? ⟨P, 2, none⟩ = some (.slice (some ad) m ucap) from fun wS hS =>
          ⟨(hb1.below hS hb1.lt).cell 0, (hb1.below hS hb1.lt).cell 1, (hb1.below hS hb1.lt).cell 2, (hR.bC.below hS hR.bC.lt).cell 0, (hR.bK.below hS hR.bK.lt).cell 0, (hbP.below hS hbP.lt).cell 0, (hbP.below hS hbP.lt).cell 2⟩)
        have hKB : Below W8.heap.size W8 W8.drew := (Below.refl _ _).drew
        refine wpIn_region_det (fun W' => Below W8.heap.size W8 W') (by kernel_rfl) (by kernel_rfl) (by kernel_rfl) (by rintro ⟨a, w, h⟩; exact h) hKB ?_
        iterate 10 (first | (refine det_skip (by rfl) ?_; simp only [Act.put, List.setIfInBounds_toArray, List.set_cons_zero, List.set_cons_succ]) | (refine det_pure (v := ?_) (by rfl) ?_ ?_; rotate_left; (intro wS hS; obtain ⟨f1, f2, f3, f4, f5, f6, f7⟩ := HF.out wS hS; go_simp; try with_reducible rfl); simp only [Act.put, List.setIfInBounds_toArray, List.set_cons_zero, List.set_cons_succ]))
        refine det_pure (v := .int .i64 z1) (by rfl) (fun wS hS => by go_simp) ?_
        simp only [Act.put, List.setIfInBounds_toArray, List.set_cons_zero, List.set_cons_succ]
        iterate 8 (first | (refine det_skip (by rfl) ?_; simp only [Act.put, List.setIfInBounds_toArray, List.set_cons_zero, List.set_cons_succ]) | (refine det_pure (v := ?_) (by rfl) ?_ ?_; rotate_left; (intro wS hS; obtain ⟨f1, f2, f3, f4, f5, f6, f7⟩ := HF.out wS hS; go_simp; try with_reducible rfl); simp only [Act.put, List.setIfInBounds_toArray, List.set_cons_zero, List.set_cons_succ]))
        refine det_pure (v := .int .i64 z2) (by rfl) (fun wS hS => by go_simp) ?_
        simp only [Act.put, List.setIfInBounds_toArray, List.set_cons_zero, List.set_cons_succ]
        iterate 3 (first | (refine det_skip (by rfl) ?_; simp only [Act.put, List.setIfInBounds_toArray, List.set_cons_zero, List.set_cons_succ]) | (refine det_pure (v := ?_) (by rfl) ?_ ?_; rotate_left; (intro wS hS; obtain ⟨f1, f2, f3, f4, f5, f6, f7⟩ := HF.out wS hS; go_simp; try with_reducible rfl); simp only [Act.put, List.setIfInBounds_toArray, List.set_cons_zero, List.set_cons_succ]))
        refine det_load_row (by rfl) 57 _ rfl b2 rfl 57 _ _ (fun w1 hS => hb2.below hS hb2.lt) Try.underlying57 rfl (by rw [ints_size, hlx]; kernel_rfl) ?_
        simp only [Act.put, List.setIfInBounds_toArray, List.set_cons_zero, List.set_cons_succ]
        iterate 4 (first | (refine det_skip (by rfl) ?_; simp only [Act.put, List.setIfInBounds_toArray, List.set_cons_zero, List.set_cons_succ]) | (refine det_pure (v := ?_) (by rfl) ?_ ?_; rotate_left; (intro wS hS; obtain ⟨f1, f2, f3, f4, f5, f6, f7⟩ := HF.out wS hS; go_simp; try with_reducible rfl); simp only [Act.put, List.setIfInBounds_toArray, List.set_cons_zero, List.set_cons_succ]))
        refine det_pure (by rfl) (fun w1 hS => ar_loadx (hA.below hS) h64 k (by omega) _ hgp _ rfl rfl) ?_
        simp only [Act.put, List.setIfInBounds_toArray, List.set_cons_zero, List.set_cons_succ]
        refine det_pure (v := .bool false) (by rfl) (fun w1 _ => by rw [run_exec_neq_ints 57 _ _ _ rfl 55 64 .i16 y y rfl rfl Try.underlying57 Try.underlying55 (by kernel_rfl) hlx hlx (by kernel_rfl)]; simp) ?_
        simp only [Act.put, List.setIfInBounds_toArray, List.set_cons_zero, List.set_cons_succ]
        (first | (refine det_skip (by rfl) ?_; simp only [Act.put, List.setIfInBounds_toArray, List.set_cons_zero, List.set_cons_succ]) | (refine det_pure (v := ?_) (by rfl) ?_ ?_; rotate_left; (intro wS hS; obtain ⟨f1, f2, f3, f4, f5, f6, f7⟩ := HF.out wS hS; go_simp; try with_reducible rfl); simp only [Act.put, List.setIfInBounds_toArray, List.set_cons_zero, List.set_cons_succ]))
        refine det_nil ?_
        intro W9 hb9
        replace hR := hR.below hb9
        replace hkp := hkp.below hb9 hNW4
        have hlk := HAT.out.len
        have hpl : pre.length ≤ 1000000 := by
          have h1 := offB_le (x := x) hf.b300 c
          simp only at hlk
          omega
        clear hb1 hb2 hbP hA HF hKB hb9 hgp hyy hzz1 hzz2 hw1 hw2 hlx h64 hmm huu
        have a2 : W9.cell? ⟨A + 1, 0, none⟩ = some (.int .i64 k) := hR.bK.cell 0
        have f2 := hR.bK.free 0
        have a3 : W9.cell? ⟨A + 1 + 1, 0, none⟩ = some (.int .i64 pre.length) := hR.bM.cell 0
        have f3 := hR.bM.free 0
        have s3 := hR.bS.cell 0
        have r4 := hR.bR.cell 0
        have f4 := hR.bR.free 0
        have n1 : A + 1 + 1 ≠ A + 1 := by omega
        have n2 : N + 1 ≠ A + 1 := by omega
        have n3 : N + 1 ≠ A + 1 + 1 := by omega
        have n4 : N + 1 + 1 ≠ A + 1 := by omega
        have n5 : N + 1 + 1 ≠ A + 1 + 1 := by omega
        have hRt := hR.setK hNA (k + 1)
        have hkt := hkp.set (A := A + 1) (by omega) (by omega) (.int .i64 ((k + 1 : Nat) : Int))
        have hRc := hRt.setM hNA (pre.length + 1)
        have hkc := hkt.set (A := A + 1 + 1) (by omega) (by omega) (.int .i64 ((pre.length + 1 : Nat) : Int))
        have HRC := Lib.hid hRc
        have HKC := Lib.hid hkc
        have hkl2 : k + 1 ≤ lenB x c := by rw [hlm]; omega
        have hof2 : offB x c + (k + 1) = (pre ++ [(c, k)]).length := by rw [List.length_append]; show _ = pre.length + 1; omega
        have HE := Lib.hid (And.intro hkl2 hof2)
        clear hR hRt hkt hRc hkc hkp hkl2 hof2 hof hlk hlm
        gi_wp2
        · exact ⟨(HKC.out.set (A := N + 1 + 1) (by omega) (by omega) _).f, rfl, HRC.out.bR.set 0 _, HRC.out.hB.setCell (p := ⟨N + 1 + 1, 0, none⟩) (by show N ≤ N + 1 + 1; omega) _⟩
        · exact ⟨HKC.out.f, HKC.out.k, ⟨c, k + 1, hc1, HE.out.1, HE.out.2, by rw [List.length_append]; exact HRC.out⟩⟩
        · exact ⟨HKC.out.f, HKC.out.k, ⟨c, k + 1, hc1, HE.out.1, HE.out.2, by rw [List.length_append]; exact HRC.out⟩⟩
  case done =>
    rintro D xs W hD hS hIv hK
    obtain ⟨c, k, hq1, hq2, hq3, hR⟩ := hIv.ex
    have hrr := fun W h => ref_right11 x hf W h
    have hIw : IsImg W (.agg #[.int .i64 x.w, .int .i64 x.h, x.cu, x.qu, x.tu]) x := HI.out.below (by rw [← HN.out]; exact hR.hB)
    unfold ImgArg.val at hrr
    have fin : ∀ W7 (a : Act) (_ : a.defers = [{ target := .collected D, args := #[] }]) (_ : a.tmps.getD 4 undef = .pointer (some ⟨N + 1 + 1, 0, none⟩)), Below W.heap.size W W7 → bodyPostM Fence.wide 9 Try.prog Try.f6 (fun e w' => e = .returned (.bool true) ∧ Below N w w') .ret a (W7.setCell ⟨N + 1 + 1, 0, none⟩ (.bool true)) := by
      rintro W7 ⟨tmps, defers⟩ rfl ht hb7
      have bR7 := (hR.bR.below hb7 hR.bR.lt).set 0 (.bool true)
      have hK7 := (hb7.block D (Array.getElem?_eq_some_iff.1 hK).1).trans hK
      have hKE := (KeepsOthers.setCell W7 ⟨N + 1 + 1, 0, none⟩ (.bool true)).same D _ hK7 rfl
      exact leave_mark hKE (results_box rfl _ _ (N + 1 + 1) _ _ ht (bR7.putObj hKE rfl) (load_bool _ _ ⟨_, rfl⟩)) ⟨rfl, ((hR.hB.trans (hb7.mono (Nat.le_of_lt hR.bN.lt))).setCell (p := ⟨N + 1 + 1, 0, none⟩) (by show N ≤ N + 1 + 1; omega) _).trans (belowK_b (by omega) _ D _ _ hD hKE rfl rfl)⟩
    by_cases h0 : imgE x = 0
    · rw [if_pos h0] at hS
      subst hS
      have hri := right_of_imgE h0
      rw [h0] at hrr
      have hrf := fun W h => ref_frame_ok x W h hf.c20 hri.fr
      have hcnt := offB_blk x hri
      rw [← hcnt] at hrf
      unfold offB at hrf
      unfold ImgArg.val at hrf
      have hR0 := hR
      have hbW : Below W.heap.size W W := Below.refl _ _
      generalize hT : (befo x x.cs.length).length = T at *
      clear hIv hseq hcnt
      go_upto_region 22 with (first
        | (refine wpList_load_row rfl 26 _ rfl N rfl 26 _ _ _ hR.bN Try.underlying26 rfl (by kernel_rfl) ?_)
        | (go_at_call 22; refine (hrr _ hIw).mono ?_; rintro e w7 ⟨rfl, hb7⟩; replace hR := hR.below hb7; replace hbW := hbW.trans (hb7.mono hbW.size); replace hIw := hIw.below hb7)
        | (go_at_call 25; refine (hrf _ hIw).mono ?_; rintro e w8 ⟨⟨u0, u1, u2, u3, pb, pn, pc, gb, gn, gc, rfl, hFB⟩, hb8⟩; replace hR := hR.below hb8; replace hbW := hbW.trans (hb8.mono hbW.size); obtain ⟨P, hP⟩ : ∃ P, P = w8.heap.size := ⟨_, rfl⟩; have HP := Lib.hid hP; clear hP)
        | (refine wpList_store_row rfl 44 _ _ rfl w8.heap.size _ rfl rfl 44 _ (Blk.new _ _ _) (by kernel_rfl) rfl (by simp [Value.oneCell']) ?_))
      have hbe : Below w8.heap.size w8 ((w8.alloc (.cells #[.int .i64 0, .int .i64 0, .int .i64 0, .int .i64 0, .slice none 0 0, .slice none 0 0] 44)).setRow P #[.int .i64 u0, .int .i64 u1, .int .i64 u2, .int .i64 u3, .slice pb pn pc, .slice gb gn gc]) := Below.setRow ((Below.refl _ _).alloc (Nat.le_refl _) _) (Nat.le_of_eq HP.out.symm) _
      rw [← HP.out]
      refine wp_world (fun V => Rd N A st x w c k T V ∧ Below W.heap.size W V ∧ Blk V P #[.int .i64 u0, .int .i64 u1, .int .i64 u2, .int .i64 u3, .slice pb pn pc, .slice gb gn gc] 44 ∧ FrB (.agg #[.int .i64 u0, .int .i64 u1, .int .i64 u2, .int .i64 u3, .slice pb pn pc, .slice gb gn gc]) (T : Int) V) ⟨hR.below hbe, hbW.trans (hbe.mono hbW.size), (Blk.new' _ _ _ HP.out).row _, hFB.below hbe⟩ ?_
      clear hbe hR hbW hFB hIw
      rintro V ⟨hR, hbW, bP, hFB⟩
      have hGm : ∀ V V', (Rd N A st x w c k T V ∧ Below W.heap.size W V ∧ Blk V P #[.int .i64 u0, .int .i64 u1, .int .i64 u2, .int .i64 u3, .slice pb pn pc, .slice gb gn gc] 44 ∧ FrB (.agg #[.int .i64 u0, .int .i64 u1, .int .i64 u2, .int .i64 u3, .slice pb pn pc, .slice gb gn gc]) (T : Int) V) → Below V.heap.size V V' → (Rd N A st x w c k T V' ∧ Below W.heap.size W V' ∧ Blk V' P #[.int .i64 u0, .int .i64 u1, .int .i64 u2, .int .i64 u3, .slice pb pn pc, .slice gb gn gc] 44 ∧ FrB (.agg #[.int .i64 u0, .int .i64 u1, .int .i64 u2, .int .i64 u3, .slice pb pn pc, .slice gb gn gc]) (T : Int) V') :=
        fun V V' h hb => ⟨h.1.below hb, h.2.1.trans (hb.mono h.2.1.size), h.2.2.1.below hb h.2.2.1.lt, h.2.2.2.below hb⟩
      refine wp_region_mono [0, 1, 2, 3] [4] (fun V => Rd N A st x w c k T V ∧ Below W.heap.size W V ∧ Blk V P #[.int .i64 u0, .int .i64 u1, .int .i64 u2, .int .i64 u3, .slice pb pn pc, .slice gb gn gc] 44 ∧ FrB (.agg #[.int .i64 u0, .int .i64 u1, .int .i64 u2, .int .i64 u3, .slice pb pn pc, .slice gb gn gc]) (T : Int) V)
        (fun | 2 => some (sFix (.int .i64 T)) | _ => none) (fun _ => []) (by kernel_rfl) (by kernel_rfl) (hGm _ _ ⟨hR, hbW, bP, hFB⟩ (Below.refl _ _).drew) ?_ ?_
      · intro i s hs
        match i with
        | 2 => cases hs; exact fun _ _ => sFix_mono _ _ _
      simp only [pick, List.getD_cons_succ, List.getD_cons_zero, List.zip_cons_cons, List.zip_nil_right]
      refine mono_pure (v := .int .i64 (T : Int)) (by rfl) rfl (fun w1 hG => by have cy := hG.1.bM.cell 0; go_simp; try with_reducible rfl) ?_
      simp only [Act.put, List.setIfInBounds_toArray, List.set_cons_zero, List.set_cons_succ]
      refine mono_pure (by rfl) rfl (fun w1 hG => run_exec_load_row 44 _ rfl P rfl 44 _ _ hG.2.2.1 Try.underlying44 rfl (by kernel_rfl)) ?_
      simp only [Act.put, List.setIfInBounds_toArray, List.set_cons_zero, List.set_cons_succ]
      refine mono_fix (.int .i64 (T : Int)) (by rfl) rfl hGm (by intro w hG; go_simp; first | done | exact ⟨rfl, rfl⟩) (fun w1 hG _ => ?_) ?_
      · refine (hG.2.2.2 w1 (Below.refl _ _)).mono ?_
        rintro e w' ⟨rfl, h2⟩
        exact ⟨rfl, h2⟩
      simp only [Act.put, List.setIfInBounds_toArray, List.set_cons_zero, List.set_cons_succ]
      (repeat (first | (refine mono_skip (by rfl) ?_; simp only [Act.put, List.setIfInBounds_toArray, List.set_cons_zero, List.set_cons_succ]) | (refine mono_pure (v := ?_) (by rfl) rfl ?_ ?_; rotate_left; (intro wS hS; go_simp; try with_reducible rfl); simp only [Act.put, List.setIfInBounds_toArray, List.set_cons_zero, List.set_cons_succ])))
      refine mono_nil ?_
      rintro w9 ⟨hR9, hb9, -, -⟩ _
      have r9 := hR9.bR.cell 0
      have f9 := hR9.bR.free 0
      clear hGm hR bP hFB hR9 hbW
      go_wp2_with fail
      exact fin _ _ rfl rfl hb9
    · rw [if_neg h0] at hS
      subst hS
      generalize imgE x = E at hrr h0
      have t0 : (E != 0) = true := by simpa using h0
      clear hIv hseq
      go_wp2_with (first
        | (refine wpList_load_row rfl 26 _ rfl N rfl 26 _ _ _ hR.bN Try.underlying26 rfl (by kernel_rfl) ?_)
        | (go_at_call 22; refine (hrr _ hIw).mono ?_; rintro e w7 ⟨rfl, hb7⟩; have m7 : w7.cell? ⟨A + 1 + 1, 0, none⟩ = some (.int .i64 0) := (hR.bM.below hb7 hR.bM.lt).cell 0; have r7 := (hR.bR.below hb7 hR.bR.lt).cell 0; have f7 := (hR.bR.below hb7 hR.bR.lt).free 0))
      exact fin _ _ rfl rfl hb7
  case stop =>
    rintro D cd pre W hD _ ⟨rfl, bR, hB1⟩ hK
    go_wp2_with fail
    exact leave_mark hK (results_box rfl _ _ (N + 1 + 1) _ _ rfl (bR.putObj hK rfl) (load_bool _ _ ⟨_, rfl⟩)) ⟨rfl, hB1.trans (belowK_b (by omega) _ D _ _ hD hK rfl rfl)⟩
end imageBlocks
theorem imageBlocks.core (v0 : Value) (a0 : ImgArg) (a1 : Int) (w1 : (Lit.int .u8 a1).wf = true) (W : World) (s0 : IsImg W v0 a0) :
    Calls Try.prog 6 #[v0, .int .u8 a1] W fun e w' => e = .returned (.bool true) ∧ Below W.heap.size W w' :=
  imageBlocks.walk a1 (bounds_u8 w1).1 (bounds_u8 w1).2 a0 v0 W s0
end Go.Proofs.Ytgmhhocpdfdplaa
