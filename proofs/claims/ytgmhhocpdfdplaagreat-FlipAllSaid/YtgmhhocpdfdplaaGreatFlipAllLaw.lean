/- aquatintlaw18.FlipAll, walked. -/
import Derived.Test.YtgmhhocpdfdplaaGreatFlipAll
import Derived.Test.YtgmhhocpdfdplaaGreatFlipSh
import Derived.Test.YtgmhhocpdfdplaaGreatFlipSl
import Derived.Test.YtgmhhocpdfdplaaGreatGH
namespace Go.Proofs.YtgmhhocpdfdplaaGreat
open Go.RowKit Go.Shelf
attribute [local go_sem] Oper.semAt_some
set_option maxRecDepth 100000
theorem ref_image18 (x : ImgArg) (hf : FewOk x) (k : Int) (w : World) (hI : IsImg w x.val x) :
    Calls Tryz.prog 8 #[x.val, .int .i64 k] w fun r w' => RefRes8 (flipD x k) (mayE x k) r w' ∧ Below w.heap.size w w' := by
  by_cases h0 : mayE x k = 0
  · rw [flipD_yes h0, h0]
    obtain ⟨-, k0, k8⟩ := mayE_ok h0
    obtain ⟨n, rfl⟩ := Int.eq_ofNat_of_zero_le k0
    by_cases h4 : 4 ≤ n
    · exact ref_image18_hi x hf n h0 h4 w hI
    · exact ref_image18_lo x hf n h0 h4 w hI
  · exact ref_image18_no x hf k h0 w hI
theorem blk_ne {W : World} {g k : Nat} {cs ds : Array Value} {t t' : TypeId} (h : Blk W g cs t) (h' : Blk W k ds t') (ht : t ≠ t') : g ≠ k := by
  rintro rfl
  have := h.symm.trans h'
  simp at this
  exact ht this.2
theorem load_bool (g : Nat) (v : Value) (hv : ∃ b, v = .bool b) (w : World) (h : w.cell? ⟨g, 0, none⟩ = some v) : (loadVar 4 ⟨g, 0, none⟩).run Tryz.prog w = .ok v w := by
  obtain ⟨b, rfl⟩ := hv
  go_simp
theorem OwnT.cellsOf {x : ImgArg} {W W' : World} (h : OwnT x W) (hc : CellsOf W W') : OwnT x W' := h.at' W' fun _ _ _ hg _ => (hc.blk hg).trans hg.symm
/-- What a round's parts keep. -/
structure Kp3 (N B L : Nat) (W U : World) : Prop where
  f : KeepsFrom L W U
  k : KB2 N B W U
  s : L ≤ U.heap.size
theorem Kp3.refl (N B L : Nat) (W : World) (h : L ≤ W.heap.size) : Kp3 N B L W W := ⟨KeepsFrom.refl _ _, ⟨KeepC.refl _ _, Below.refl _ _⟩, h⟩
theorem Kp3.below {N B L : Nat} {W U U' : World} (h : Kp3 N B L W U) (hb : Below U.heap.size U U') (hN : N ≤ L) : Kp3 N B L W U' :=
  ⟨h.f.trans ((KeepsFrom.of_below hb)), h.k.trans ⟨KeepC.below hb, hb.mono (Nat.le_trans hN h.s)⟩, Nat.le_trans h.s hb.size⟩
theorem Kp3.set {N B L A : Nat} {W U : World} (h : Kp3 N B L W U) (hB : A < B) (hN : N ≤ A) (v : Value) : Kp3 N B L W (U.setCell ⟨A, 0, none⟩ v) :=
  ⟨h.f.trans ((KeepsOthers.setCell _ _ _).from _), h.k.trans ⟨KeepC.set _ _ _ hB, (Below.refl _ _).setCell (p := ⟨A, 0, none⟩) hN _⟩, by simpa using h.s⟩
theorem OwnT.setBox {x : ImgArg} {W : World} (h : OwnT x W) {g : Nat} {cs : Array Value} {t : TypeId} (hg : Blk W g cs t) (ht : t ≠ 48 ∧ t ≠ 66 ∧ t ≠ 40 ∧ t ≠ 70) (v : Value) : OwnT x (W.setCell ⟨g, 0, none⟩ v) :=
  h.at' _ fun k ds t' hk hd => heap_setCell_other _ ⟨g, 0, none⟩ k _ (by
    intro e
    obtain rfl : k = g := e
    have := hk.symm.trans hg
    simp at this
    obtain ⟨-, rfl⟩ := this
    obtain ⟨h1, h2, h3, h4⟩ := ht
    rcases hd with e | e | e | e <;> contradiction)
/-- The number in a box. -/
def boxN (W : World) (g : Nat) : Nat := match W.cell? ⟨g, 0, none⟩ with
  | some (.int _ z) => z.toNat
  | _ => 0
theorem boxN_of {W : World} {g j : Nat} {t : TypeId} (h : Blk W g #[.int .i64 j] t) : boxN W g = j := by
  unfold boxN
  rw [h.cell 0]
  simp
namespace flipAll
/-- Between two rounds: q is the next turn asked, n have come; boxes: the image, the stop, the result, q, n. -/
structure Rd (N A1 A2 : Nat) (st : Int) (x : ImgArg) (w : World) (q n : Nat) (W : World) : Prop where
  bA : Blk W A1 #[.int .i64 q] 3
  bC : Blk W A2 #[.int .i64 n] 3
  bN : Blk W N #[.int .i64 x.w, .int .i64 x.h, x.cu, x.qu, x.tu] 26
  bS : Blk W (N + 1) #[.int .u8 st] 5
  bR : Blk W (N + 1 + 1) #[.bool false] 4
  hB : Below N w W
theorem Rd.below {N A1 A2 : Nat} {st : Int} {x : ImgArg} {w : World} {q n : Nat} {W W' : World} (h : Rd N A1 A2 st x w q n W) (hb : Below W.heap.size W W') : Rd N A1 A2 st x w q n W' :=
  ⟨h.bA.below hb h.bA.lt, h.bC.below hb h.bC.lt, h.bN.below hb h.bN.lt, h.bS.below hb h.bS.lt, h.bR.below hb h.bR.lt, h.hB.trans (hb.mono (Nat.le_of_lt h.bN.lt))⟩
theorem Rd.turn {N A1 A2 : Nat} {st : Int} {x : ImgArg} {w : World} {q n : Nat} {W : World} (h : Rd N A1 A2 st x w q n W) (hA : A1 ≠ A2) (hN : N ≤ A1) (z : Nat) : Rd N A1 A2 st x w z n (W.setCell ⟨A1, 0, none⟩ (.int .i64 z)) :=
  ⟨h.bA.set 0 _, h.bC.other _ _ (Ne.symm hA), h.bN.other _ _ (blk_ne h.bN h.bA (by decide)), h.bS.other _ _ (blk_ne h.bS h.bA (by decide)), h.bR.other _ _ (blk_ne h.bR h.bA (by decide)), h.hB.setCell (p := ⟨A1, 0, none⟩) hN _⟩
theorem Rd.count {N A1 A2 : Nat} {st : Int} {x : ImgArg} {w : World} {q n : Nat} {W : World} (h : Rd N A1 A2 st x w q n W) (hA : A1 ≠ A2) (hN : N ≤ A2) (z : Nat) : Rd N A1 A2 st x w q z (W.setCell ⟨A2, 0, none⟩ (.int .i64 z)) :=
  ⟨h.bA.other _ _ hA, h.bC.set 0 _, h.bN.other _ _ (blk_ne h.bN h.bC (by decide)), h.bS.other _ _ (blk_ne h.bS h.bC (by decide)), h.bR.other _ _ (blk_ne h.bR h.bC (by decide)), h.hB.setCell (p := ⟨A2, 0, none⟩) hN _⟩
/-- What stands between two rounds. -/
structure Iv (N A1 A2 : Nat) (st : Int) (x : ImgArg) (w : World) (pre : List (Nat × ImgArg)) (W : World) : Prop where
  ex : ∃ q, q ≤ 8 ∧ pre.map Prod.fst = ksOf x q ∧ Rd N A1 A2 st x w q pre.length W
theorem Iv.own (N A1 A2 : Nat) (st : Int) (x : ImgArg) (w : World) (B : Nat) (hw : N ≤ w.heap.size) (hB : N ≤ B) : OwnFrom B (Iv N A1 A2 st x w) := by
  intro s X Y row hs hg hr
  obtain ⟨q, h1, h2, h⟩ := hs.ex
  have hc := CellsOf.of hg (fun r e => (hr r e).2)
  exact ⟨q, h1, h2, hc.blk h.bA, hc.blk h.bC, hc.blk h.bN, hc.blk h.bS, hc.blk h.bR, ownFrom_below (β := Unit) hw hB () X Y row h.hB hg hr⟩
/-- A round has left. -/
structure Out (N : Nat) (w : World) (cd : Code) (pre : List (Nat × ImgArg)) (W : World) : Prop where
  cd : cd = .ret
  res : Blk W (N + 1 + 1) #[.bool true] 4
  hB : Below N w W
theorem Out.own (N : Nat) (w : World) (cd : Code) (B : Nat) (hw : N ≤ w.heap.size) (hB : N ≤ B) : OwnFrom B (Out N w cd) := by
  intro s X Y row hs hg hr
  have hc := CellsOf.of hg (fun r e => (hr r e).2)
  exact ⟨hs.cd, hc.blk hs.res, ownFrom_below (β := Unit) hw hB () X Y row hs.hB hg hr⟩
/-- What a round's loop variables are. -/
structure Lv (x : ImgArg) (t : Array Value) (pre : List (Nat × ImgArg)) (p : Nat × ImgArg) (a : Act) (W : World) : Prop where
  ex : ∃ b, Blk W b #[.int .i64 p.2.w, .int .i64 p.2.h, p.2.cu, p.2.qu, p.2.tu] 26 ∧ a = { tmps := [(21, .int .i64 p.1), (22, p.2.val), (7, .int .i64 p.1), (8, .pointer (some ⟨b, 0, none⟩))].foldl (fun t (p : Nat × Value) => t.setIfInBounds p.1 p.2) t, defers := [] }
  v : FlipV x pre p W
theorem Lv.own (x : ImgArg) (t : Array Value) (pre : List (Nat × ImgArg)) (p : Nat × ImgArg) (a : Act) (B : Nat) : OwnFrom B (fun (_ : Unit) W => Lv x t pre p a W) := by
  intro s X Y row hs hg hr
  have hc := CellsOf.of hg (fun r e => (hr r e).2)
  obtain ⟨b, h1, h2⟩ := hs.ex
  have hv := hs.v
  exact ⟨⟨b, hc.blk h1, h2⟩, ⟨hv.k8, hv.may, hv.pre, hv.d, hv.own.cellsOf hc, hv.few, hv.ww, hv.wh⟩⟩
set_option maxHeartbeats 16000000 in
theorem walk (st : Int) (hst : 0 ≤ st) (hst2 : st ≤ 255) (x : ImgArg) (v : Value) (w : World) (h : IsImg w v x) :
    Calls Tryz.prog 3 #[v, .int .u8 st] w fun e w' => e = .returned (.bool true) ∧ Below w.heap.size w w' := by
  have hv := h.val
  subst hv
  have HI := Lib.hid h
  have hL := LI.begin h
  obtain ⟨N, hN⟩ : ∃ N, N = w.heap.size := ⟨_, rfl⟩
  rw [← hN] at hL ⊢
  have HN := Lib.hid hN
  have hsm := fun V h => law_small18 x V h
  unfold ImgArg.val at hsm ⊢
  clear hN h
  refine (callsIn_wide (n := 9)).1 ?_
  refine callsIn_of_wp_marks Tryz.func3 rfl trivial ?_ rfl
  simp only [Tryz.ntmps3, List.size_toArray, List.length_cons, List.length_nil, Nat.reduceAdd, Nat.reduceSub, Array.replicate_succ, Array.replicate_zero, List.push_toArray, List.append_toArray, List.nil_append, List.cons_append]
  refine wpIn_wide.2 ?_
  go_upto_region 1 with fail
  have hbe : Below (w.heap.size + 1) (w.alloc (.cells #[.int .i64 x.w, .int .i64 x.h, x.cu, x.qu, x.tu] 26)) (((w.alloc (.cells #[.int .i64 x.w, .int .i64 x.h, x.cu, x.qu, x.tu] 26)).alloc (.cells #[.int .u8 st] 5)).alloc (.cells #[.bool false] 4)) := ((Below.refl _ _).alloc (by simp) _).alloc (by simp) _
  refine wp_world (fun W => LI N x w W ∧ Blk W (N + 1) #[.int .u8 st] 5 ∧ Blk W (N + 1 + 1) #[.bool false] 4) ⟨hL.below (by simpa using hbe), (Blk.new' _ _ _ (by rw [HN.out]; simp)).alloc _, Blk.new' _ _ _ (by rw [HN.out]; simp)⟩ ?_
  rw [← HN.out]
  clear hL hbe
  rintro W0 ⟨hL, bS, bR⟩
  go_upto_region 3 with (first
    | (go_at_call 4; refine (awake18a _).mono ?_; rintro e w1 ⟨rfl, hb1⟩; replace hL := hL.below hb1; replace bS := bS.below hb1 bS.lt; replace bR := bR.below hb1 bR.lt; have r3 := bR.cell 0; have f3 := bR.free 0; have p0 := hL.bN.cell 0; have p1 := hL.bN.cell 1; have p2 := hL.bN.cell 2; have p3 := hL.bN.cell 3; have p4 := hL.bN.cell 4)
    | (go_at_call 5; refine (hsm _ hL.img).mono ?_; rintro e w2 ⟨⟨bb, rfl, hbf⟩, hb2⟩; replace hL := hL.below hb2; replace bS := bS.below hb2 bS.lt; replace bR := bR.below hb2 bR.lt; cases bb))
  · refine leave_plain (results_box rfl _ _ (N + 1 + 1) _ _ rfl (bR.set 0 _) (load_bool _ _ ⟨_, rfl⟩)) ?_
    have hBN : Below N w w1 := by rw [HN.out]; exact hL.hB
    exact ⟨rfl, hBN.setCell (p := ⟨N + 1 + 1, 0, none⟩) (by show N ≤ N + 1 + 1; omega) _⟩
  have hf := hbf (by first | rfl | trivial)
  obtain ⟨A1, hA1⟩ : ∃ A1, A1 = w2.heap.size := ⟨_, rfl⟩
  have HA1 := Lib.hid hA1
  have hRA : N + 1 + 1 < A1 := by rw [hA1]; exact bR.lt
  clear hA1 hsm hbf hb1 hb2 p0 p1 p2 p3 p4 r3 f3
  go_upto_region 5 with fail
  have hbe : Below w2.heap.size w2 ((w2.alloc (.cells #[.int .i64 0] 3)).alloc (.cells #[.int .i64 0] 3)) := ((Below.refl _ _).alloc (Nat.le_refl _) _).alloc (by simp) _
  have hLb := hL.below hbe
  refine wp_world (fun W => Rd N A1 (A1 + 1) st x w 0 0 W) ⟨(Blk.new' _ _ _ HA1.out).alloc _, Blk.new' _ _ _ (by rw [HA1.out]; simp), hLb.bN, bS.below hbe bS.lt, bR.below hbe bR.lt, by rw [HN.out]; exact hLb.hB⟩ ?_
  rw [← HA1.out]
  clear hLb hbe hL bS bR HA1
  intro W3 hI
  have hfn := fun V => flip_all_fn x V
  unfold ImgArg.val at hfn
  go_wp2_with (first
    | (refine wpList_load_row rfl 26 _ rfl N rfl 26 _ _ _ hI.bN Tryz.underlying26 rfl (by kernel_rfl) ?_)
    | (go_at_call 6; refine (hfn _).mono ?_; rintro e w4 ⟨rfl, rfl⟩))
  obtain ⟨B, hBn⟩ : ∃ B, B = W3.heap.size := ⟨_, rfl⟩
  try rw [← hBn]
  have hCB : A1 + 1 < B := by rw [hBn]; exact hI.bC.lt
  have hb4 : Below W3.heap.size W3 (W3.alloc (.cells #[.int .i64 x.w, .int .i64 x.h, x.cu, x.qu, x.tu] 26)) := (Below.refl _ _).alloc (Nat.le_refl _) _
  refine wp_world (fun W => Blk W B #[.int .i64 x.w, .int .i64 x.h, x.cu, x.qu, x.tu] 26 ∧ Rd N A1 (A1 + 1) st x w 0 0 W) ⟨Blk.new' _ _ _ hBn, hI.below hb4⟩ ?_
  clear hBn hb4 hI hfn
  rintro W4 ⟨bB, hI⟩
  have hNw : N ≤ w.heap.size := by rw [HN.out]; exact Nat.le_refl _
  have hBW := bB.lt
  have hseq := fun n => flip_hands n x hf N B B w W4 HN.out HI.out hI.hB (Nat.le_refl _) (by omega) bB
  refine wp_rangeFunc_w (n := 9) (Kp := KB2 N B) (fun h k => h.trans k) (fun W l o o' hl ho hc => ⟨KeepC.put _ _ _ _ ho hc, ⟨rfl, rfl, rfl, by simp, fun k hk => World.putObj_heap_other (by omega)⟩⟩) (fun U U' hs hb => ⟨KeepC.below hb, hb.mono (by omega)⟩)
    (by omega) (gf := 13) (lb := #[.pointer (some ⟨B, 0, none⟩)]) rfl (enters_of Tryz.func13 (by kernel_rfl) rfl) (hseq _) (fun _ => rfl)
    (Iv N A1 (A1 + 1) st x w) (Out N w) (Iv.own _ _ _ _ _ _ _ hNw (by omega)) (fun cd => Out.own _ _ cd _ hNw (by omega)) ⟨0, by omega, rfl, hI⟩
    (Lv x) (fun t pre p a => Lv.own x t pre p a _) ?assign ?body ?done ?stop
  case assign =>
    rintro l pre ⟨k, yw, yh, ycu, yqu, ytu, ycs, yqs, yts⟩ W K hIv hV hK
    obtain ⟨yb, ybc, rfl⟩ : ∃ b c, ycu = .slice b ycs.length c := hV.own.row.len
    obtain ⟨yq, yqc, rfl⟩ : ∃ b c, yqu = .slice b yqs.length c := hV.own.q.len
    obtain ⟨yz, ytc, rfl⟩ : ∃ b c, ytu = .slice b yts.length c := hV.own.t.len
    unfold encF ImgArg.val
    gi_wp2_with (refine wpListIn_store_row ⟨some l, rfl⟩ rfl 26 _ _ rfl W.heap.size _ rfl rfl 26 _ (Blk.new _ _ _) (by kernel_rfl) rfl (by simp [Value.oneCell']) ?_)
    have hB1 : Below W.heap.size W ((W.alloc (.cells #[.int .i64 0, .int .i64 0, .slice none 0 0, .slice none 0 0, .slice none 0 0] 26)).setRow W.heap.size #[.int .i64 yw, .int .i64 yh, .slice yb ycs.length ybc, .slice yq yqs.length yqc, .slice yz yts.length ytc]) := Below.setRow ((Below.refl _ _).alloc (Nat.le_refl _) _) (Nat.le_refl _) _
    obtain ⟨q, h1, h2, h3⟩ := hIv.ex
    exact hK _ _ hB1 ⟨q, h1, h2, h3.below hB1⟩ ⟨⟨W.heap.size, (Blk.new _ _ _).row _, rfl⟩, ⟨hV.k8, hV.may, hV.pre, hV.d, hV.own.below hB1, hV.few, hV.ww, hV.wh⟩⟩
  case body =>
    rintro l pre ⟨k, yw, yh, ycu, yqu, ytu, ycs, yqs, yts⟩ a' W hl hsz hIv ⟨⟨b, hbx, rfl⟩, hv⟩
    obtain ⟨q, hq8, hpre, hR⟩ := hIv.ex
    have hks := hpre.symm.trans hv.pre
    have hmk := hv.may
    have hk8 := hv.k8
    simp only at hks hmk hk8
    obtain ⟨hno, hqk⟩ := ksOf_next hks
    have hqk := hqk hmk
    have hown := hv.own
    simp only at hown hbx
    obtain ⟨yb, ybc, rfl⟩ : ∃ b c, ycu = .slice b ycs.length c := hown.row.len
    obtain ⟨yq, yqc, rfl⟩ : ∃ b c, yqu = .slice b yqs.length c := hown.q.len
    obtain ⟨yz, ytc, rfl⟩ : ∃ b c, ytu = .slice b yts.length c := hown.t.len
    simp only [List.foldl_cons, List.foldl_nil, List.setIfInBounds_toArray, List.set_cons_zero, List.set_cons_succ]
    have HV := Lib.hid hv
    have HNO := Lib.hid hno
    have HPRE := Lib.hid hpre
    have hAB : A1 < B := by omega
    have hNA : N ≤ A1 := by omega
    have hAW : A1 < W4.heap.size := by omega
    have hNW4 : N ≤ W4.heap.size := by omega
    have hWW : W4.heap.size ≤ W.heap.size := hsz
    clear hv hno hks hIv hpre
    gi_wp2
    gi_loopw [] (fun wr => ∃ j : Nat, q ≤ j ∧ j ≤ k ∧ Rd N A1 (A1 + 1) st x w j pre.length wr ∧ Kp3 N B W4.heap.size W wr ∧ Blk wr b #[.int .i64 yw, .int .i64 yh, .slice yb ycs.length ybc, .slice yq yqs.length yqc, .slice yz yts.length ytc] 26 ∧ OwnT ⟨yw, yh, .slice yb ycs.length ybc, .slice yq yqs.length yqc, .slice yz yts.length ytc, ycs, yqs, yts⟩ wr) (fun wr => 8 - boxN wr A1)
    case atStart => exact ⟨q, Nat.le_refl _, hqk, hR, Kp3.refl _ _ _ _ hWW, hbx, hown⟩
    case round =>
      clear hR hbx hown
      obtain ⟨j, j1, j2, hR, hkp, hbx, hown⟩ := hrel
      have hR0 := hR
      have a1 : wr.cell? ⟨A1, 0, none⟩ = some (.int .i64 j) := hR.bA.cell 0
      have tl : decide ((j : Int) < 8) = true := by simp; omega
      have hIw : IsImg wr (.agg #[.int .i64 x.w, .int .i64 x.h, x.cu, x.qu, x.tu]) x := HI.out.below (by rw [← HN.out]; exact hR.hB)
      have hrm := ref_may18 x hf (j : Int) wr hIw
      unfold ImgArg.val at hrm
      have p0 := hR.bN.cell 0; have p1 := hR.bN.cell 1; have p2 := hR.bN.cell 2; have p3 := hR.bN.cell 3; have p4 := hR.bN.cell 4
      by_cases hjk : j = k
      · subst hjk
        rw [hmk] at hrm
        gi_wp2
        refine ⟨trivial, ?_⟩
        refine ((callsIn_wide.2 hrm).inRound l).mono ?_
        rintro e w5 ⟨rfl, hb5⟩
        replace hR := hR.below hb5
        replace hkp := hkp.below hb5 hNW4
        replace hbx := hbx.below hb5 hbx.lt
        replace hown := hown.below hb5
        clear p0 p1 p2 p3 p4 a1 hrm hIw hb5
        clear hR0
        have a1 : w5.cell? ⟨A1, 0, none⟩ = some (.int .i64 j) := hR.bA.cell 0
        have hIw : IsImg w5 (.agg #[.int .i64 x.w, .int .i64 x.h, x.cu, x.qu, x.tu]) x := HI.out.below (by rw [← HN.out]; exact hR.hB)
        have hri := ref_image18 x hf (j : Int) w5 hIw
        rw [hmk] at hri
        obtain ⟨D, hD⟩ : ∃ D, flipD x (j : Int) = D := ⟨_, rfl⟩
        rw [hD] at hri
        have HD := Lib.hid hD
        clear hD
        unfold ImgArg.val at hri
        gi_wp2_with (refine wpListIn_load_row ⟨some l, rfl⟩ rfl 26 _ rfl N rfl 26 _ _ _ hR.bN Tryz.underlying26 rfl (by kernel_rfl) ?_)
        refine ⟨trivial, ?_⟩
        refine ((callsIn_wide.2 hri).inRound l).mono ?_
        rintro e w6 ⟨⟨⟨zw, zh, zcu, zqu, ztu, zcs, zqs, zts⟩, rfl, hsd, hiz, -⟩, hb6⟩
        obtain ⟨zb, zbc, rfl⟩ : ∃ b c, zcu = .slice b zcs.length c := hiz.cs.len
        obtain ⟨zq, zqc, rfl⟩ : ∃ b c, zqu = .slice b zqs.length c := hiz.qs.len
        obtain ⟨zz, ztc, rfl⟩ : ∃ b c, ztu = .slice b zts.length c := hiz.ts.len
        unfold ImgArg.val
        obtain ⟨G, hG⟩ : ∃ G, G = w6.heap.size := ⟨_, rfl⟩
        obtain ⟨W7, hW7⟩ : ∃ W7, W7 = (w6.alloc (.cells #[.int .i64 0, .int .i64 0, .slice none 0 0, .slice none 0 0, .slice none 0 0] 26)).setRow G #[.int .i64 zw, .int .i64 zh, .slice zb zcs.length zbc, .slice zq zqs.length zqc, .slice zz zts.length ztc] := ⟨_, rfl⟩
        have hbe : Below w6.heap.size w6 W7 := by rw [hW7]; exact Below.setRow ((Below.refl _ _).alloc (Nat.le_refl _) _) (Nat.le_of_eq hG.symm) _
        have bz7 : Blk W7 G #[.int .i64 zw, .int .i64 zh, .slice zb zcs.length zbc, .slice zq zqs.length zqc, .slice zz zts.length ztc] 26 := by rw [hW7]; exact (Blk.new' _ _ _ hG).row _
        have HW := Lib.hid hW7
        have HG := Lib.hid hG
        clear hW7 hG
        have hb7 := hb6.trans (hbe.mono hb6.size)
        replace hR := hR.below hb7
        replace hkp := hkp.below hb7 hNW4
        replace hown := hown.below hb7
        replace hiz := IsImg.below hiz hbe
        replace hbx := hbx.below hb7 hbx.lt
        have hsb : sameB ⟨yw, yh, .slice yb ycs.length ybc, .slice yq yqs.length yqc, .slice yz yts.length ytc, ycs, yqs, yts⟩ ⟨zw, zh, .slice zb zcs.length zbc, .slice zq zqs.length zqc, .slice zz zts.length ztc, zcs, zqs, zts⟩ = true := SameD.sameOf HV.out.d hsd (by rw [← HD.out, flipD_yes hmk]; exact SameD.refl _)
        have hiy := OwnT.img hown HV.out.few HV.out.ww HV.out.wh
        have hsm := ref11_same _ _ HV.out.few W7 hiy hiz
        rw [hsb] at hsm
        unfold ImgArg.val at hsm
        clear hb6 hb7 hbe hiy hiz hsb hsd
        replace a1 : W7.cell? ⟨A1, 0, none⟩ = some (.int .i64 j) := hR.bA.cell 0
        have x0 := hbx.cell 0; have x1 := hbx.cell 1; have x2 := hbx.cell 2; have x3 := hbx.cell 3; have x4 := hbx.cell 4
        have z0 := bz7.cell 0; have z1 := bz7.cell 1; have z2 := bz7.cell 2; have z3 := bz7.cell 3; have z4 := bz7.cell 4
        gi_wp2_with (refine wpListIn_store_row ⟨some l, rfl⟩ rfl 26 _ _ rfl w6.heap.size _ rfl rfl 26 _ (Blk.new _ _ _) (by kernel_rfl) rfl (by simp [Value.oneCell']) ?_; rw [← HG.out, ← HW.out])
        refine ⟨trivial, ?_⟩
        refine ((callsIn_wide.2 hsm).inRound l).mono ?_
        rintro e w8 ⟨rfl, hb8⟩
        replace hR := hR.below hb8
        replace hkp := hkp.below hb8 hNW4
        clear hsm hbx hown bz7 HW HG x0 x1 x2 x3 x4 z0 z1 z2 z3 z4 hb8
        replace a1 : w8.cell? ⟨A1, 0, none⟩ = some (.int .i64 j) := hR.bA.cell 0
        have f1 := hR.bA.free 0
        have a2 := hR.bC.cell 0
        have f2 := hR.bC.free 0
        have s3 := hR.bS.cell 0
        have r3 := hR.bR.cell 0
        have f3 := hR.bR.free 0
        have hpl : pre.length ≤ 8 := by
          have := congrArg List.length HPRE.out
          rw [List.length_map] at this
          rw [this]
          unfold ksOf
          exact Nat.le_trans (List.length_filter_le _ _) (by rw [List.length_range]; exact hq8)
        have n1 : A1 + 1 ≠ A1 := by omega
        have n2 : N + 1 ≠ A1 := by omega
        have n3 : N + 1 ≠ A1 + 1 := by omega
        have n4 : N + 1 + 1 ≠ A1 := by omega
        have n5 : N + 1 + 1 ≠ A1 + 1 := by omega
        have hRt := hR.turn (by omega) hNA (j + 1)
        have hkt := hkp.set hAB hNA (.int .i64 ((j + 1 : Nat) : Int))
        have hRc := hRt.count (by omega) (by omega) (pre.length + 1)
        have hkc := hkt.set (A := A1 + 1) hCB (by omega) (.int .i64 ((pre.length + 1 : Nat) : Int))
        have hks : (pre ++ [((j, ⟨yw, yh, .slice yb ycs.length ybc, .slice yq yqs.length yqc, .slice yz yts.length ytc, ycs, yqs, yts⟩) : Nat × ImgArg)]).map Prod.fst = ksOf x (j + 1) := by
          rw [List.map_append, ksOf_yes hmk, HV.out.pre]
          rfl
        have HRC := Lib.hid hRc
        have HKC := Lib.hid hkc
        have HKS := Lib.hid hks
        clear hR hRt hkt hRc hkc hkp hks
        gi_wp2
        · exact ⟨(HKC.out.set (A := N + 1 + 1) (by omega) (by omega) _).f, rfl, HRC.out.bR.set 0 _, HRC.out.hB.setCell (p := ⟨N + 1 + 1, 0, none⟩) (by show N ≤ N + 1 + 1; omega) _⟩
        · exact ⟨HKC.out.f, HKC.out.k, ⟨j + 1, by omega, HKS.out, by rw [List.length_append]; exact HRC.out⟩⟩
        · exact ⟨HKC.out.f, HKC.out.k, ⟨j + 1, by omega, HKS.out, by rw [List.length_append]; exact HRC.out⟩⟩
      · have hmj := HNO.out j j1 (by omega)
        generalize mayE x (j : Int) = E at *
        have t0 : (E == 0) = false := by simpa using hmj
        gi_wp2
        refine ⟨trivial, ?_⟩
        refine ((callsIn_wide.2 hrm).inRound l).mono ?_
        rintro e w5 ⟨rfl, hb5⟩
        replace hR := hR.below hb5
        replace hkp := hkp.below hb5 hNW4
        replace hbx := hbx.below hb5 hbx.lt
        replace hown := hown.below hb5
        clear p0 p1 p2 p3 p4 a1 hrm hIw hb5
        have a1 : w5.cell? ⟨A1, 0, none⟩ = some (.int .i64 j) := hR.bA.cell 0
        have f1 := hR.bA.free 0
        gi_wp2
        go_roundw
        case rel => exact ⟨j + 1, by omega, by omega, hR.turn (by omega) hNA _, hkp.set hAB hNA _, hbx.other _ _ (blk_ne hbx hR.bA (by decide)), hown.setBox hR.bA (by decide) _⟩
        case measure =>
          show 8 - boxN (w5.setCell _ (.int .i64 ((j + 1 : Nat) : Int))) A1 < _
          rw [boxN_of hR0.bA, boxN_of (hR.turn (by omega) hNA (j + 1)).bA]
          omega
  case done =>
    rintro D xs W hD hS hIv hK
    obtain ⟨q, h1, h2, hR⟩ := hIv.ex
    have hno := (ksOf_next (h2.symm.trans hS)).1
    have HNO := Lib.hid hno
    clear hno hIv
    go_wp2_with fail
    go_loopw [] (fun wr => ∃ j : Nat, q ≤ j ∧ j ≤ 8 ∧ Rd N A1 (A1 + 1) st x w j xs.length wr ∧ wr.heap[D]? = some (.deferred (some []))) (fun wr => 8 - boxN wr A1)
    case atStart => exact ⟨q, Nat.le_refl _, h1, hR, hK⟩
    case round =>
      clear hR hK
      obtain ⟨j, j1, j2, hR, hK⟩ := hrel
      have hR0 := hR
      have a1 : wr.cell? ⟨A1, 0, none⟩ = some (.int .i64 j) := hR.bA.cell 0
      by_cases hlt : j < 8
      · have tl : decide ((j : Int) < 8) = true := by simp; omega
        have hmj := HNO.out j j1 hlt
        have hIw : IsImg wr (.agg #[.int .i64 x.w, .int .i64 x.h, x.cu, x.qu, x.tu]) x := HI.out.below (by rw [← HN.out]; exact hR.hB)
        have hrm := ref_may18 x hf (j : Int) wr hIw
        generalize mayE x (j : Int) = E at *
        have t0 : (E == 0) = false := by simpa using hmj
        unfold ImgArg.val at hrm
        go_wp2_with (first
          | (refine wpList_load_row rfl 26 _ rfl N rfl 26 _ _ _ hR.bN Tryz.underlying26 rfl (by kernel_rfl) ?_)
          | (go_at_call 7; refine hrm.mono ?_; rintro e w5 ⟨rfl, hb5⟩; replace hR := hR.below hb5; have f1 := hR.bA.free 0; replace a1 : w5.cell? ⟨A1, 0, none⟩ = some (.int .i64 j) := hR.bA.cell 0))
        refine ⟨⟨j + 1, by omega, by omega, hR.turn (by omega) (by omega) _, (KeepsOthers.setCell _ _ _).same D _ ((hb5.block D (Array.getElem?_eq_some_iff.1 hK).1).trans hK) rfl⟩, ?_⟩
        show 8 - boxN (w5.setCell _ (.int .i64 ((j + 1 : Nat) : Int))) A1 < _
        rw [boxN_of hR0.bA, boxN_of (hR.turn (by omega) (by omega) (j + 1)).bA]
        omega
      · have tl : decide ((j : Int) < 8) = false := by simp; omega
        have f1 := hR.bR.free 0
        have r1 := hR.bR.cell 0
        have hKE := (KeepsOthers.setCell wr ⟨N + 1 + 1, 0, none⟩ (.bool true)).same D _ hK rfl
        go_wp2_with fail
        exact leave_mark hKE (results_box rfl _ _ (N + 1 + 1) _ _ rfl ((hR.bR.set 0 (.bool true)).putObj hKE rfl) (load_bool _ _ ⟨_, rfl⟩)) ⟨rfl, (hR.hB.setCell (p := ⟨N + 1 + 1, 0, none⟩) (by show N ≤ N + 1 + 1; omega) _).trans (belowK_b (by omega) _ D _ _ hD hKE rfl rfl)⟩
  case stop =>
    rintro D cd pre W hD _ ⟨rfl, bR, hB1⟩ hK
    go_wp2_with fail
    exact leave_mark hK (results_box rfl _ _ (N + 1 + 1) _ _ rfl (bR.putObj hK rfl) (load_bool _ _ ⟨_, rfl⟩)) ⟨rfl, hB1.trans (belowK_b (by omega) _ D _ _ hD hK rfl rfl)⟩
end flipAll
theorem flipAll.core (v0 : Value) (a0 : ImgArg) (a1 : Int) (w1 : (Lit.int .u8 a1).wf = true) (W : World) (s0 : IsImg W v0 a0) :
    Calls Tryz.prog 3 #[v0, .int .u8 a1] W fun e w' => e = .returned (.bool true) ∧ Below W.heap.size W w' :=
  flipAll.walk a1 (bounds_u8 w1).1 (bounds_u8 w1).2 a0 v0 W s0
end Go.Proofs.YtgmhhocpdfdplaaGreat
