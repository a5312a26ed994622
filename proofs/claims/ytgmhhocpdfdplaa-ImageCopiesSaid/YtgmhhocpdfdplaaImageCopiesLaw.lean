/- aquatintlaw11.ImageCopies, walked. -/
import Derived.Test.YtgmhhocpdfdplaaXor
namespace Go.Proofs.Ytgmhhocpdfdplaa
open Go.RowKit
set_option maxRecDepth 100000
namespace imageCopies
/-- The image x in block N, its copy x1 in block P. -/
structure LC (N P : Nat) (x x1 : ImgArg) (w w1 W : World) : Prop where
  l : LI N x w w1
  bP : Blk W P #[.int .i64 x1.w, .int .i64 x1.h, x1.cu, x1.qu, x1.tu] 26
  own : OwnI w1.heap.size x1 w1 W
  hP : w1.heap.size ≤ P
theorem LC.below {N P : Nat} {x x1 : ImgArg} {w w1 W W' : World} (h : LC N P x x1 w w1 W) (hb : Below W.heap.size W W') : LC N P x x1 w w1 W' := ⟨h.l, h.bP.below hb h.bP.lt, h.own.below hb, h.hP⟩
theorem LC.li {N P : Nat} {x x1 : ImgArg} {w w1 W : World} (h : LC N P x x1 w w1 W) : LI N x w W := h.l.below h.own.c.hB
theorem few_set {x : ImgArg} (hf : FewOk x) (c : CompArg) (h : c.bs.length ≤ 20000) (i : Nat) : FewOk { x with cs := x.cs.set i c } :=
  ⟨by show (x.cs.set i c).length ≤ 20; rw [List.length_set]; exact hf.c20, hf.q20, hf.t100, fun d hd => by
    rcases List.mem_or_eq_of_mem_set hd with h1 | rfl
    · exact hf.b300 d h1
    · exact h, hf.t140⟩
theorem same_no {x y : ImgArg} (h : 0 < y.cs.length) (h' : 0 < x.cs.length) (hne : (y.cs[0]'h).id ≠ (x.cs[0]'h').id) : sameB y x = false := by
  unfold sameB
  refine decide_eq_false fun he => hne ?_
  have h1 := congrArg (fun l => l[0]?) he.2.2.1
  have h2 : cd (y.cs[0]'h) = cd (x.cs[0]'h') := by simpa [h, h'] using h1
  exact congrArg (fun t => t.1.1) h2
/-- The first component's cells, in a row of its own. -/
theorem LC.cell0 {N P g cap : Nat} {x x1 : ImgArg} {w w1 W : World} (h : LC N P x x1 w w1 W) (hpos : 0 < x1.cs.length) (hl : x1.cs.length ≤ 1000000) (hcu : x1.cu = .slice (some ⟨g, 0, none⟩) x1.cs.length cap) {ub : Option Addr} {ucap : Nat} (hu : (x1.cs[0]'hpos).u = .slice ub (x1.cs[0]'hpos).bs.length ucap) :
    W.cell? ⟨g, 0, none⟩ = some (.int .i64 (x1.cs[0]'hpos).id) ∧ W.cell? ⟨g, 6, none⟩ = some (.slice ub (x1.cs[0]'hpos).bs.length ucap) := by
  have hadd : (⟨g, 0, none⟩ : Addr).add (0 * 7) = ⟨g, 0, none⟩ := rfl
  have hcs := h.own.c.comps hl
  rw [hcu] at hcs
  obtain ⟨a', ha', c0, -, -, -, -, -, c6⟩ := hcs.at hpos
  cases ha'
  rw [hadd] at c0 c6
  rw [hu] at c6
  exact ⟨c0, c6⟩
theorem LC.num {N P gb cap : Nat} {x x1 : ImgArg} {w w1 W : World} (h : LC N P x x1 w w1 W) (hpos : 0 < x1.cs.length) (hu : (x1.cs[0]'hpos).u = .slice (some ⟨gb, 0, none⟩) (x1.cs[0]'hpos).bs.length cap) {k : Nat} (hk : k < (x1.cs[0]'hpos).bs.length) :
    W.cell? ⟨gb, k * 64 + 5, none⟩ = some (.int .i16 (((x1.cs[0]'hpos).bs.getD k []).getD 5 0)) ∧ W.frozen? ⟨gb, k * 64 + 5, none⟩ = false := by
  have hr := h.own.c.own 0 hpos hpos
  have h64 := (h.own.c.ok 0 hpos hpos W hr.ar).h64
  rw [hu] at hr
  obtain ⟨g', cap', he, -, -, hc⟩ := hr.cells (by omega)
  cases he
  exact ⟨(hc _ (by omega)).trans (bcells_get h64 k 5 hk (by decide)), (hr.spot (i := k * 64 + 5) (by omega)).2⟩
set_option maxHeartbeats 8000000 in
theorem walk (x : ImgArg) (a1 : Int) (v : Value) (w : World) (wa : (Lit.int .u8 a1).wf = true) (h : IsImg w v x) :
    Calls Try.prog 8 #[v, .int .u8 a1] w fun e w' => e = .returned (.bool true) ∧ Below w.heap.size w w' := by
  have hv := h.val
  subst hv
  have hww := Lib.hid h.ww
  have hwh := Lib.hid h.wh
  have hL := LI.begin h
  obtain ⟨N, hN⟩ : ∃ N, N = w.heap.size := ⟨_, rfl⟩
  rw [← hN] at hL
  have HN := Lib.hid hN
  clear hN h
  unfold ImgArg.val
  go_enter Try.func8, Try.ntmps8
  go_upto_region 1 with fail
  refine wp_world (LI N x w) hL ?_
  rw [← HN.out]
  clear hL
  intro W hL
  have hsm := fun W h => law_small (.agg #[.int .i64 x.w, .int .i64 x.h, x.cu, x.qu, x.tu]) x W h
  go_upto_region 3 with (first | (go_at_call 18; refine (awake11a _).mono ?_; rintro e w1 ⟨rfl, hb1⟩; have hL1 := hL.below hb1; have p0 := hL1.bN.cell 0; have p1 := hL1.bN.cell 1; have p2 := hL1.bN.cell 2; have p3 := hL1.bN.cell 3; have p4 := hL1.bN.cell 4) | (go_at_call 19; refine (hsm _ hL1.img).mono ?_; rintro e w2 ⟨rfl | ⟨rfl, hf⟩, hb2⟩))
  · go_wp2_with (go_at_call 18; refine (awake11a _).mono ?_; rintro e w3 ⟨rfl, hb3⟩)
    go_ret
    exact ⟨rfl, ((hL1.below hb2).below hb3).hB⟩
  have hL2 := hL1.below hb2
  clear hL hL1 hb1 hb2 hsm p0 p1 p2 p3 p4
  clear w1 W
  have hcp := fun W h => img_copy x hf W h
  unfold ImgArg.val at hcp
  have bN := hL2.bN
  go_upto_region 4 with (first | (refine wpList_load_row rfl 26 _ rfl N rfl 26 _ _ _ bN Try.underlying26 rfl (by kernel_rfl) ?_) | (go_at_call 31; refine (hcp _ hL2.img).mono ?_; rintro e w3 ⟨⟨yw, yh, ycu, yqu, ytu, ycs, yqs, yts⟩, rfl, hSD, hO⟩; obtain ⟨cb, ccap, rfl⟩ : ∃ b c, ycu = .slice b ycs.length c := hO.c.row.len; obtain ⟨qb, qcap, rfl⟩ : ∃ b c, yqu = .slice b yqs.length c := hO.q.len; obtain ⟨tb, tcap, rfl⟩ : ∃ b c, ytu = .slice b yts.length c := hO.t.len))
  obtain ⟨P, hP⟩ : ∃ P, P = w3.heap.size := ⟨_, rfl⟩
  rw [← hP]
  have hal := (Below.refl w3.heap.size w3).alloc (Nat.le_refl _) (.cells #[.int .i64 yw, .int .i64 yh, .slice cb ycs.length ccap, .slice qb yqs.length qcap, .slice tb yts.length tcap] 26)
  have hLC : LC N P x ⟨yw, yh, .slice cb ycs.length ccap, .slice qb yqs.length qcap, .slice tb yts.length tcap, ycs, yqs, yts⟩ w w2 (w3.alloc (.cells #[.int .i64 yw, .int .i64 yh, .slice cb ycs.length ccap, .slice qb yqs.length qcap, .slice tb yts.length tcap] 26)) :=
    ⟨hL2, Blk.new' _ _ _ hP, hO.below hal, by rw [hP]; exact hO.c.hW⟩
  refine wp_world (LC N P x ⟨yw, yh, .slice cb ycs.length ccap, .slice qb yqs.length qcap, .slice tb yts.length tcap, ycs, yqs, yts⟩ w w2) hLC ?_
  clear hLC hal hO hP hcp bN hL2
  clear w3
  intro W hC
  have bPx := hC.bP
  simp only at bPx
  obtain ⟨x1, hx1⟩ : ∃ x1 : ImgArg, x1 = ⟨yw, yh, .slice cb ycs.length ccap, .slice qb yqs.length qcap, .slice tb yts.length tcap, ycs, yqs, yts⟩ := ⟨_, rfl⟩
  rw [← hx1] at hC hSD
  have HCU := Lib.hid (show x1.cu = .slice cb x1.cs.length ccap by rw [hx1])
  have hwf1 := Lib.hid (show (Lit.int .i64 x1.w).wf = true by rw [hSD.w]; exact hww.out)
  have hwf2 := Lib.hid (show (Lit.int .i64 x1.h).wf = true by rw [hSD.h]; exact hwh.out)
  clear hx1 bPx
  have hf1 := hSD.few hf
  have himg : ∀ W, LC N P x x1 w w2 W → IsImg W (.agg #[.int .i64 x1.w, .int .i64 x1.h, x1.cu, x1.qu, x1.tu]) x1 := fun W h => h.own.img (by have := hf1.c20; omega) (by have := hf1.q20; omega) (by have := hf1.t100; omega) hwf1.out hwf2.out
  have hs1 := fun W (h : LC N P x x1 w w2 W) => img_same x1 x hf1 W (himg W h) h.li.img
  have hr1 := fun W (h : LC N P x x1 w w2 W) => img_right x1 W (himg W h) hf1
  have hr2 := fun W (h : LC N P x x1 w w2 W) => img_right x W h.li.img hf
  rw [hSD.same] at hs1
  rw [hSD.err] at hr1
  unfold ImgArg.val at hs1 hr1 hr2
  obtain ⟨E, hE⟩ : ∃ E, imgE x = E := ⟨_, rfl⟩
  rw [hE] at hr1 hr2
  clear hE
  refine wp_region_det (fun W => LC N P x x1 w w2 W) (by kernel_rfl) (by kernel_rfl) (hC.below (Below.refl _ _).drew) ?_
  refine det_pure (by rfl) (fun w1 hS => run_exec_load_row 26 _ rfl P rfl 26 _ _ hS.bP Try.underlying26 rfl (by kernel_rfl)) ?_
  simp only [Act.put, List.setIfInBounds_toArray, List.set_cons_zero, List.set_cons_succ]
  refine det_pure (by rfl) (fun w1 hS => run_exec_load_row 26 _ rfl N rfl 26 _ _ hS.li.bN Try.underlying26 rfl (by kernel_rfl)) ?_
  simp only [Act.put, List.setIfInBounds_toArray, List.set_cons_zero, List.set_cons_succ]
  refine det_call (v := .bool true) (by rfl) (by intro wS hS; go_simp; first | done | exact ⟨rfl, rfl⟩) (fun W hS => (hs1 W hS).mono fun e w' hh => ⟨hh.1, hS.below hh.2⟩) ?_
  simp only [Act.put, List.setIfInBounds_toArray, List.set_cons_zero, List.set_cons_succ]
  (first | (refine det_skip (by rfl) ?_; simp only [Act.put, List.setIfInBounds_toArray, List.set_cons_zero, List.set_cons_succ]) | (refine det_pure (v := ?_) (by rfl) ?_ ?_; rotate_left; (intro wS hS; go_simp; try with_reducible rfl); simp only [Act.put, List.setIfInBounds_toArray, List.set_cons_zero, List.set_cons_succ]))
  (first | (refine det_skip (by rfl) ?_; simp only [Act.put, List.setIfInBounds_toArray, List.set_cons_zero, List.set_cons_succ]) | (refine det_pure (v := ?_) (by rfl) ?_ ?_; rotate_left; (intro wS hS; go_simp; try with_reducible rfl); simp only [Act.put, List.setIfInBounds_toArray, List.set_cons_zero, List.set_cons_succ]))
  refine det_pure (by rfl) (fun w1 hS => run_exec_load_row 26 _ rfl P rfl 26 _ _ hS.bP Try.underlying26 rfl (by kernel_rfl)) ?_
  simp only [Act.put, List.setIfInBounds_toArray, List.set_cons_zero, List.set_cons_succ]
  refine det_call (v := .int .i64 E) (by rfl) (by intro wS hS; go_simp; first | done | exact ⟨rfl, rfl⟩) (fun W hS => (hr1 W hS).mono fun e w' hh => ⟨hh.1, hS.below hh.2⟩) ?_
  simp only [Act.put, List.setIfInBounds_toArray, List.set_cons_zero, List.set_cons_succ]
  refine det_pure (by rfl) (fun w1 hS => run_exec_load_row 26 _ rfl N rfl 26 _ _ hS.li.bN Try.underlying26 rfl (by kernel_rfl)) ?_
  simp only [Act.put, List.setIfInBounds_toArray, List.set_cons_zero, List.set_cons_succ]
  refine det_call (v := .int .i64 E) (by rfl) (by intro wS hS; go_simp; first | done | exact ⟨rfl, rfl⟩) (fun W hS => (hr2 W hS).mono fun e w' hh => ⟨hh.1, hS.below hh.2⟩) ?_
  simp only [Act.put, List.setIfInBounds_toArray, List.set_cons_zero, List.set_cons_succ]
  refine det_pure (v := .bool false) (by rfl) (fun wS hS => by go_simp; try simp) ?_
  simp only [Act.put, List.setIfInBounds_toArray, List.set_cons_zero, List.set_cons_succ]
  (repeat (first | (refine det_skip (by rfl) ?_; simp only [Act.put, List.setIfInBounds_toArray, List.set_cons_zero, List.set_cons_succ]) | (refine det_pure (v := ?_) (by rfl) ?_ ?_; rotate_left; (intro wS hS; go_simp; try with_reducible rfl); simp only [Act.put, List.setIfInBounds_toArray, List.set_cons_zero, List.set_cons_succ])))
  refine det_nil ?_
  clear hC hs1 hr1 hr2 himg
  clear W
  intro W hC
  have p2 : W.cell? ⟨P, 2, none⟩ = some (.slice cb x1.cs.length ccap) := by rw [← HCU.out]; exact hC.bP.cell 2
  by_cases h0 : x1.cs.length = 0
  · have t0 : decide (x1.cs.length = 0) = true := decide_eq_true h0
    have t0' : ((x1.cs.length : Int) == 0) = true := by rw [h0]; rfl
    have t0'' : decide ((x1.cs.length : Int) = 0) = true := by rw [h0]; rfl
    clear h0
    go_wp2
    go_ret
    exact ⟨rfl, hC.li.hB⟩
  have t0 : decide (x1.cs.length = 0) = false := decide_eq_false h0
  have t0' : ((x1.cs.length : Int) == 0) = false := by rw [beq_eq_false_iff_ne]; omega
  have t0'' : decide ((x1.cs.length : Int) = 0) = false := decide_eq_false (by omega)
  have hpos : 0 < x1.cs.length := by omega
  clear h0
  obtain ⟨g, cap', he, hlo, hgs, -⟩ := hC.own.c.row.cells hpos
  rw [HCU.out] at he
  simp only [Value.slice.injEq] at he
  obtain ⟨rfl, -, rfl⟩ := he
  have hown0 := hC.own.c.own 0 hpos hpos
  obtain ⟨ub, ucap, hu⟩ := hown0.len
  have hadd : (⟨g, 0, none⟩ : Addr).add (0 * 7) = ⟨g, 0, none⟩ := rfl
  have c6 : ∀ W, LC N P x x1 w w2 W → W.cell? ⟨g, 6, none⟩ = some (.slice ub (x1.cs[0]'hpos).bs.length ucap) := fun W hW => by
    have hcs := hW.own.c.comps (by have := hf1.c20; omega)
    rw [HCU.out] at hcs
    obtain ⟨a', ha', -, -, -, -, -, -, c6⟩ := hcs.at hpos
    cases ha'
    rw [hadd, hu] at c6
    exact c6
  have q6 := c6 W hC
  have hj1 : (0 : Int) < (x1.cs.length : Int) := by omega
  by_cases h1 : (x1.cs[0]'hpos).bs.length = 0
  · have s0 : decide ((x1.cs[0]'hpos).bs.length = 0) = true := decide_eq_true h1
    have s0' : (((x1.cs[0]'hpos).bs.length : Int) == 0) = true := by rw [h1]; rfl
    have s0'' : decide (((x1.cs[0]'hpos).bs.length : Int) = 0) = true := by rw [h1]; rfl
    clear h1
    go_wp2
    go_ret
    exact ⟨rfl, hC.li.hB⟩
  have s0 : decide ((x1.cs[0]'hpos).bs.length = 0) = false := decide_eq_false h1
  have s0' : (((x1.cs[0]'hpos).bs.length : Int) == 0) = false := by rw [beq_eq_false_iff_ne]; omega
  have s0'' : decide (((x1.cs[0]'hpos).bs.length : Int) = 0) = false := decide_eq_false (by omega)
  have ha : 0 ≤ a1 ∧ a1 ≤ 255 := by simpa [Lit.wf, IntKind.min, IntKind.max, IntKind.signed, IntKind.bits] using wa
  obtain ⟨an, rfl⟩ : ∃ n : Nat, a1 = n := ⟨a1.toNat, by omega⟩
  have hnz : ((x1.cs[0]'hpos).bs.length : Int) ≠ 0 := by omega
  have hnp : (0 : Int) < ((x1.cs[0]'hpos).bs.length : Int) := by omega
  have hn3 : (x1.cs[0]'hpos).bs.length ≤ 20000 := hf1.b300 _ (List.getElem_mem hpos)
  go_upto_region 9 with fail
  obtain ⟨kn, hkn⟩ : ∃ k, an % (x1.cs[0]'hpos).bs.length = k := ⟨_, rfl⟩
  have hk1 : kn < (x1.cs[0]'hpos).bs.length := by rw [← hkn]; exact Nat.mod_lt _ (by omega)
  have hke : (an : Int) % ((x1.cs[0]'hpos).bs.length : Int) = (kn : Int) := by rw [← Int.natCast_emod, hkn]
  rw [hke]
  clear hke hkn ha wa
  have hposx : 0 < x.cs.length := by rw [← hSD.len]; exact hpos
  have hbs : (x1.cs[0]'hpos).bs = (x.cs[0]'hposx).bs := congrArg (fun t => t.2.2.2) (hSD.at hpos hposx)
  have hid : (x1.cs[0]'hpos).id = (x.cs[0]'hposx).id := congrArg (fun t => t.1.1) (hSD.at hpos hposx)
  have hkx : kn < (x.cs[0]'hposx).bs.length := by rw [← hbs]; exact hk1
  obtain ⟨mb, mcap, hmu⟩ := hC.li.img.cs.len
  have HMU := Lib.hid hmu
  have hcs0 := hC.li.img.cs
  rw [hmu] at hcs0
  obtain ⟨am, hma, -, -, -, -, -, -, -⟩ := hcs0.at hposx
  have hok0 := hcs0.ok _ (List.getElem_mem hposx)
  obtain ⟨ad, acap, had, -, -⟩ := hok0.ar.some (by omega)
  have hmadd : am.add (0 * 7) = am := by rw [Nat.zero_mul]; obtain ⟨ab, ao, ae⟩ := am; cases ae <;> rfl
  have m6 : ∀ W, LI N x w W → W.cell? ⟨am.block, am.off + 4 + 2, none⟩ = some (.slice (some ad) (x.cs[0]'hposx).bs.length acap) := fun W hW => by
    have hcs := hW.img.cs
    rw [hmu] at hcs
    obtain ⟨a', ha', -, -, -, -, -, -, c6⟩ := hcs.at hposx
    rw [hma] at ha'
    cases ha'
    rw [hmadd, had] at c6
    exact c6
  have m2 : ∀ W, LI N x w W → W.cell? ⟨N, 2, none⟩ = some (.slice (some am) x.cs.length mcap) := fun W hW => by rw [← hma, ← hmu]; exact hW.bN.cell 2
  have hArm : ∀ W, LI N x w W → Ar W 64 (.slice (some ad) (x.cs[0]'hposx).bs.length acap) (x.cs[0]'hposx).bs.length (bcells (x.cs[0]'hposx).bs) := fun W hW => by
    have := (hW.img.cs.ok _ (List.getElem_mem hposx)).ar
    rwa [had] at this
  have r2 := m2 W hC.li
  have r6 := m6 W hC.li
  have hjx : (0 : Int) < (x.cs.length : Int) := by omega
  have hk0 : (0 : Int) ≤ (kn : Int) := by omega
  have hk2 : (kn : Int) < ((x1.cs[0]'hpos).bs.length : Int) := by omega
  have hk3 : (kn : Int) < ((x.cs[0]'hposx).bs.length : Int) := by omega
  have hgb : ∀ gb, ub = some ⟨gb, 0, none⟩ → gb < W.heap.size := fun gb e => (hown0.lt gb (by rw [hu, e]; rfl)).2
  obtain ⟨Q, hQ⟩ : ∃ Q, Q = W.heap.size := ⟨_, rfl⟩
  have HQ := Lib.hid hQ
  have hwl : (Pl.blk (x.cs[0]'hposx).bs kn).length = 64 := Pl.blk_len hok0.h64 kn
  rw [← hQ] at hgb
  have C6 := Lib.hid c6; have M6 := Lib.hid m6; have M2 := Lib.hid m2; have HAM := Lib.hid hArm; have HGB := Lib.hid hgb; have HU := Lib.hid hu; have HOK0 := Lib.hid hok0; have HOWN := Lib.hid hown0
  have harm := hArm _ hC.li
  clear hok0
  have HHM := Lib.hid hma; have HAD := Lib.hid had; have HBS := Lib.hid hbs; have HID := Lib.hid hid
  clear hQ hmu c6 m6 m2 hArm hgb hu hown0 hcs0 hma had hbs hid hmadd
  go_upto_region 10 with (first | (refine Great.wpList_runTo rfl _ rfl _ _ (ar_loadx harm HOK0.out.h64 kn hkx _ (Pl.blk_get hkx) _ rfl rfl) ?_; simp only [Act.put, List.setIfInBounds_toArray, List.set_cons_zero, List.set_cons_succ]) | (refine Great.wpList_runTo rfl _ rfl _ _ (run_alloc_blk _ rfl) ?_; simp only [Act.put, List.setIfInBounds_toArray, List.set_cons_zero, List.set_cons_succ]) | (refine wpList_store_row rfl 57 _ _ rfl Q _ (by rw [HQ.out]; rfl) rfl 57 _ (Blk.new' _ _ _ HQ.out) (by rw [ints_size, hwl]; kernel_rfl) (by rw [ints_size, ints_size, hwl]; rfl) (ints_one _ _) ?_))
  have hbQ : Below W.heap.size W ((W.alloc (.cells (ints .i16 (List.replicate 64 0)) 57)).setRow Q (ints .i16 (Pl.blk (x.cs[0]'hposx).bs kn))) := Below.setRow ((Below.refl _ _).alloc (Nat.le_refl _) _) (Nat.le_of_eq HQ.out.symm) _
  rw [← HQ.out]
  refine wp_world (fun W => LC N P x x1 w w2 W ∧ Blk W Q (ints .i16 (Pl.blk (x.cs[0]'hposx).bs kn)) 57) ⟨hC.below hbQ, (Blk.new' _ _ _ HQ.out).row _⟩ ?_
  clear hbQ hC p2 q6 r2 r6 harm
  rintro W1 ⟨hC, bQ⟩
  obtain ⟨gb, ucap', heb, -, -, -⟩ := HOWN.out.cells (by omega)
  rw [HU.out] at heb
  simp only [Value.slice.injEq] at heb
  obtain ⟨rfl, -, rfl⟩ := heb
  have hgQ : gb < Q := HGB.out gb rfl
  have hl1 : x1.cs.length ≤ 1000000 := by have := hf1.c20; omega
  have HNUM := Lib.hid (fun W (h : LC N P x x1 w w2 W) => h.num hpos HU.out hk1)
  have HC6 := Lib.hid (fun W (h : LC N P x x1 w w2 W) => (h.cell0 hpos hl1 HCU.out HU.out).2)
  have HP2 := Lib.hid (fun W (h : LC N P x x1 w w2 W) => (show W.cell? ⟨P, 2, none⟩ = some (.slice (some ⟨g, 0, none⟩) x1.cs.length ccap) by rw [← HCU.out]; exact h.bP.cell 2))
  obtain ⟨z, hz⟩ : ∃ z, ((x1.cs[0]'hpos).bs.getD kn []).getD 5 0 = z := ⟨_, rfl⟩
  rw [hz] at HNUM
  clear hz
  go_upto_region 10 with fail
  refine wp_region_mono [0, 1, 2, 3, 4, 5, 6, 7, 8, 9, 10, 11, 12, 13, 14, 15, 16, 17, 18, 19] [20] (fun W => LC N P x x1 w w2 W ∧ Blk W Q (ints .i16 (Pl.blk (x.cs[0]'hposx).bs kn)) 57) (fun _ => none) (fun _ => []) (by kernel_rfl) (by kernel_rfl) ⟨hC.below (Below.refl _ _).drew, bQ.drew⟩ ?_ ?_
  · intro i s hs; cases hs
  simp only [pick, List.getD_cons_succ, List.getD_cons_zero, List.zip_cons_cons, List.zip_nil_right]
  (first | (refine mono_skip (by rfl) ?_; simp only [Act.put, List.setIfInBounds_toArray, List.set_cons_zero, List.set_cons_succ]) | (refine mono_pure (v := ?_) (by rfl) rfl ?_ ?_; rotate_left; (intro wS hS; go_simp; try with_reducible rfl); simp only [Act.put, List.setIfInBounds_toArray, List.set_cons_zero, List.set_cons_succ]))
  refine mono_pure (v := .slice (some ⟨g, 0, none⟩) x1.cs.length ccap) (by rfl) rfl (fun w1 hG => by have cy := HP2.out w1 hG.1; go_simp; try with_reducible rfl) ?_
  simp only [Act.put, List.setIfInBounds_toArray, List.set_cons_zero, List.set_cons_succ]
  iterate 3 (first | (refine mono_skip (by rfl) ?_; simp only [Act.put, List.setIfInBounds_toArray, List.set_cons_zero, List.set_cons_succ]) | (refine mono_pure (v := ?_) (by rfl) rfl ?_ ?_; rotate_left; (intro wS hS; go_simp; try with_reducible rfl); simp only [Act.put, List.setIfInBounds_toArray, List.set_cons_zero, List.set_cons_succ]))
  refine mono_pure (v := .slice (some ⟨gb, 0, none⟩) (x1.cs[0]'hpos).bs.length ucap) (by rfl) rfl (fun w1 hG => by have cy := HC6.out w1 hG.1; go_simp; try with_reducible rfl) ?_
  simp only [Act.put, List.setIfInBounds_toArray, List.set_cons_zero, List.set_cons_succ]
  iterate 2 (first | (refine mono_skip (by rfl) ?_; simp only [Act.put, List.setIfInBounds_toArray, List.set_cons_zero, List.set_cons_succ]) | (refine mono_pure (v := ?_) (by rfl) rfl ?_ ?_; rotate_left; (intro wS hS; go_simp; try with_reducible rfl); simp only [Act.put, List.setIfInBounds_toArray, List.set_cons_zero, List.set_cons_succ]))
  refine mono_pure (v := .slice (some ⟨g, 0, none⟩) x1.cs.length ccap) (by rfl) rfl (fun w1 hG => by have cy := HP2.out w1 hG.1; go_simp; try with_reducible rfl) ?_
  simp only [Act.put, List.setIfInBounds_toArray, List.set_cons_zero, List.set_cons_succ]
  iterate 3 (first | (refine mono_skip (by rfl) ?_; simp only [Act.put, List.setIfInBounds_toArray, List.set_cons_zero, List.set_cons_succ]) | (refine mono_pure (v := ?_) (by rfl) rfl ?_ ?_; rotate_left; (intro wS hS; go_simp; try with_reducible rfl); simp only [Act.put, List.setIfInBounds_toArray, List.set_cons_zero, List.set_cons_succ]))
  refine mono_pure (v := .slice (some ⟨gb, 0, none⟩) (x1.cs[0]'hpos).bs.length ucap) (by rfl) rfl (fun w1 hG => by have cy := HC6.out w1 hG.1; go_simp; try with_reducible rfl) ?_
  simp only [Act.put, List.setIfInBounds_toArray, List.set_cons_zero, List.set_cons_succ]
  iterate 3 (first | (refine mono_skip (by rfl) ?_; simp only [Act.put, List.setIfInBounds_toArray, List.set_cons_zero, List.set_cons_succ]) | (refine mono_pure (v := ?_) (by rfl) rfl ?_ ?_; rotate_left; (intro wS hS; go_simp; try with_reducible rfl); simp only [Act.put, List.setIfInBounds_toArray, List.set_cons_zero, List.set_cons_succ]))
  refine mono_pure (v := .int .i16 z) (by rfl) rfl (fun w1 hG => by have cy := (HNUM.out w1 hG.1).1; go_simp; try with_reducible rfl) ?_
  simp only [Act.put, List.setIfInBounds_toArray, List.set_cons_zero, List.set_cons_succ]
  refine mono_pure (v := .int .i16 (bits .xor .i16 z 1)) (by rfl) rfl (fun w1 hG => by go_simp; try with_reducible rfl) ?_
  simp only [Act.put, List.setIfInBounds_toArray, List.set_cons_zero, List.set_cons_succ]
  iterate 2 (first | (refine mono_skip (by rfl) ?_; simp only [Act.put, List.setIfInBounds_toArray, List.set_cons_zero, List.set_cons_succ]) | (refine mono_pure (v := ?_) (by rfl) rfl ?_ ?_; rotate_left; (intro wS hS; go_simp; try with_reducible rfl); simp only [Act.put, List.setIfInBounds_toArray, List.set_cons_zero, List.set_cons_succ]))
  refine mono_nil ?_
  clear hC bQ
  rintro W2 ⟨hC, bQ⟩ -
  obtain ⟨n1, n2⟩ := HNUM.out W2 hC
  have hPb : P ≠ gb := fun e => (hC.own.c.own 0 hpos hpos).typed hC.bP (by decide) gb (by rw [HU.out]; rfl) e.symm
  have hC2 : LC N P x { x1 with cs := x1.cs.set 0 (setB (x1.cs[0]'hpos) kn 5 (bits .xor .i16 z 1)) } w w2 (W2.setCell ⟨gb, kn * 64 + 5, none⟩ (.int .i16 (bits .xor .i16 z 1))) :=
    ⟨hC.l, hC.bP.other _ _ hPb, hC.own.putB hpos HU.out hk1 (by decide) _ (xor16_wf z), hC.hP⟩
  have bQ2 := bQ.other ⟨gb, kn * 64 + 5, none⟩ (.int .i16 (bits .xor .i16 z 1)) (by show Q ≠ gb; omega)
  have hsl : (x1.cs.set 0 (setB (x1.cs[0]'hpos) kn 5 (bits .xor .i16 z 1))).length = x1.cs.length := List.length_set
  have hpos2 : 0 < (x1.cs.set 0 (setB (x1.cs[0]'hpos) kn 5 (bits .xor .i16 z 1))).length := by rw [hsl]; exact hpos
  have he0 : (x1.cs.set 0 (setB (x1.cs[0]'hpos) kn 5 (bits .xor .i16 z 1)))[0]'hpos2 = setB (x1.cs[0]'hpos) kn 5 (bits .xor .i16 z 1) := List.getElem_set_self _
  have hbl : (setB (x1.cs[0]'hpos) kn 5 (bits .xor .i16 z 1)).bs.length = (x1.cs[0]'hpos).bs.length := by unfold setB; simp
  have hf2 : FewOk { x1 with cs := x1.cs.set 0 (setB (x1.cs[0]'hpos) kn 5 (bits .xor .i16 z 1)) } := few_set hf1 _ (by rw [hbl]; exact hn3) 0
  go_upto_region 11 with fail
  refine wp_world (fun W => LC N P x { x1 with cs := x1.cs.set 0 (setB (x1.cs[0]'hpos) kn 5 (bits .xor .i16 z 1)) } w w2 W ∧ Blk W Q (ints .i16 (Pl.blk (x.cs[0]'hposx).bs kn)) 57) ⟨hC2, bQ2⟩ ?_
  clear hC2 bQ2 hC bQ n1 n2 HNUM HC6 HP2 hPb
  rintro W3 ⟨hC, bQ⟩
  obtain ⟨x2, hx2⟩ : ∃ x2 : ImgArg, x2 = { x1 with cs := x1.cs.set 0 (setB (x1.cs[0]'hpos) kn 5 (bits .xor .i16 z 1)) } := ⟨_, rfl⟩
  have hlen2 : x2.cs.length = x1.cs.length := by rw [hx2]; exact hsl
  have hpos3 : 0 < x2.cs.length := by rw [hlen2]; exact hpos
  have hid2 : (x2.cs[0]'hpos3).id = (x1.cs[0]'hpos).id := by subst hx2; rw [he0]; rfl
  have hu2 : (x2.cs[0]'hpos3).u = .slice (some ⟨gb, 0, none⟩) (x2.cs[0]'hpos3).bs.length ucap := by subst hx2; rw [he0, hbl]; exact HU.out
  have hb2 : (x2.cs[0]'hpos3).bs.length ≤ 20000 := by subst hx2; rw [he0, hbl]; exact hn3
  have hcu2 : x2.cu = .slice (some ⟨g, 0, none⟩) x2.cs.length ccap := by rw [hlen2, hx2]; exact HCU.out
  have hwf3 : (Lit.int .i64 x2.w).wf = true := by rw [hx2]; exact hwf1.out
  have hwf4 : (Lit.int .i64 x2.h).wf = true := by rw [hx2]; exact hwf2.out
  rw [← hx2] at hC hf2
  rw [← hlen2] at hj1
  have HCU2 := Lib.hid hcu2
  have HP2 := Lib.hid (fun W (h : LC N P x x2 w w2 W) => (show W.cell? ⟨P, 2, none⟩ = some (.slice (some ⟨g, 0, none⟩) x2.cs.length ccap) by rw [← HCU2.out]; exact h.bP.cell 2))
  have HC0 := Lib.hid (fun W (h : LC N P x x2 w w2 W) => (h.cell0 hpos3 (by have := hf2.c20; omega) HCU2.out hu2).1)
  have HID2 := Lib.hid (hid2.trans HID.out)
  have HU2 := Lib.hid hu2
  have HWF3 := Lib.hid hwf3; have HWF4 := Lib.hid hwf4
  obtain ⟨y, hy⟩ : ∃ y, (x2.cs[0]'hpos3).id = y := ⟨_, rfl⟩
  rw [hy] at HC0 HID2
  have HY := Lib.hid hy
  clear hx2 hlen2 hid2 hu2 hcu2 hwf3 hwf4 hy hsl hpos2 he0 hbl hj1
  have hj1 : (0 : Int) < (x2.cs.length : Int) := by omega
  refine wp_region_mono [0, 1, 2, 3, 4, 5, 6, 7, 8, 9] [10] (fun W => LC N P x x2 w w2 W ∧ Blk W Q (ints .i16 (Pl.blk (x.cs[0]'hposx).bs kn)) 57) (fun _ => none) (fun _ => []) (by kernel_rfl) (by kernel_rfl) ⟨hC.below (Below.refl _ _).drew, bQ.drew⟩ ?_ ?_
  · intro i s hs; cases hs
  simp only [pick, List.getD_cons_succ, List.getD_cons_zero, List.zip_cons_cons, List.zip_nil_right]
  (first | (refine mono_skip (by rfl) ?_; simp only [Act.put, List.setIfInBounds_toArray, List.set_cons_zero, List.set_cons_succ]) | (refine mono_pure (v := ?_) (by rfl) rfl ?_ ?_; rotate_left; (intro wS hS; go_simp; try with_reducible rfl); simp only [Act.put, List.setIfInBounds_toArray, List.set_cons_zero, List.set_cons_succ]))
  refine mono_pure (v := .slice (some ⟨g, 0, none⟩) x2.cs.length ccap) (by rfl) rfl (fun w1 hG => by have cy := HP2.out w1 hG.1; go_simp; try with_reducible rfl) ?_
  simp only [Act.put, List.setIfInBounds_toArray, List.set_cons_zero, List.set_cons_succ]
  (first | (refine mono_skip (by rfl) ?_; simp only [Act.put, List.setIfInBounds_toArray, List.set_cons_zero, List.set_cons_succ]) | (refine mono_pure (v := ?_) (by rfl) rfl ?_ ?_; rotate_left; (intro wS hS; go_simp; try with_reducible rfl); simp only [Act.put, List.setIfInBounds_toArray, List.set_cons_zero, List.set_cons_succ]))
  refine mono_pure (v := .slice (some ⟨g, 0, none⟩) x2.cs.length ccap) (by rfl) rfl (fun w1 hG => by have cy := HP2.out w1 hG.1; go_simp; try with_reducible rfl) ?_
  simp only [Act.put, List.setIfInBounds_toArray, List.set_cons_zero, List.set_cons_succ]
  iterate 2 (first | (refine mono_skip (by rfl) ?_; simp only [Act.put, List.setIfInBounds_toArray, List.set_cons_zero, List.set_cons_succ]) | (refine mono_pure (v := ?_) (by rfl) rfl ?_ ?_; rotate_left; (intro wS hS; go_simp; try with_reducible rfl); simp only [Act.put, List.setIfInBounds_toArray, List.set_cons_zero, List.set_cons_succ]))
  refine mono_pure (v := .int .i64 y) (by rfl) rfl (fun w1 hG => by have cy := HC0.out w1 hG.1; go_simp; try with_reducible rfl) ?_
  simp only [Act.put, List.setIfInBounds_toArray, List.set_cons_zero, List.set_cons_succ]
  refine mono_pure (v := .int .i64 (bits .xor .i64 y 1)) (by rfl) rfl (fun w1 hG => by go_simp; try with_reducible rfl) ?_
  simp only [Act.put, List.setIfInBounds_toArray, List.set_cons_zero, List.set_cons_succ]
  iterate 2 (first | (refine mono_skip (by rfl) ?_; simp only [Act.put, List.setIfInBounds_toArray, List.set_cons_zero, List.set_cons_succ]) | (refine mono_pure (v := ?_) (by rfl) rfl ?_ ?_; rotate_left; (intro wS hS; go_simp; try with_reducible rfl); simp only [Act.put, List.setIfInBounds_toArray, List.set_cons_zero, List.set_cons_succ]))
  refine mono_nil ?_
  clear hC bQ
  rintro W4 ⟨hC, bQ⟩ -
  have hPg : P ≠ g := fun e => hC.own.c.row.typed hC.bP (by decide) g (by rw [HCU2.out]; rfl) e.symm
  have hQg : Q ≠ g := fun e => hC.own.c.row.typed bQ (by decide) g (by rw [HCU2.out]; rfl) e.symm
  have hC3 : LC N P x { x2 with cs := x2.cs.set 0 (setId (x2.cs[0]'hpos3) (bits .xor .i64 y 1)) } w w2 (W4.setCell ⟨g, 0, none⟩ (.int .i64 (bits .xor .i64 y 1))) :=
    ⟨hC.l, hC.bP.other _ _ hPg, hC.own.putId hpos3 HCU2.out _ (xor64_wf y), hC.hP⟩
  have bQ3 := bQ.other ⟨g, 0, none⟩ (.int .i64 (bits .xor .i64 y 1)) hQg
  have hf3 : FewOk { x2 with cs := x2.cs.set 0 (setId (x2.cs[0]'hpos3) (bits .xor .i64 y 1)) } := few_set hf2 _ (by show (x2.cs[0]'hpos3).bs.length ≤ 20000; exact hb2) 0
  have n1 := HC0.out W4 hC
  have hrow4 := hC.own.c.row
  rw [HCU2.out] at hrow4
  have n2 := (hrow4.spot (i := 0) (by omega)).2
  clear hrow4
  go_upto_region 12 with fail
  refine wp_world (fun W => LC N P x { x2 with cs := x2.cs.set 0 (setId (x2.cs[0]'hpos3) (bits .xor .i64 y 1)) } w w2 W ∧ Blk W Q (ints .i16 (Pl.blk (x.cs[0]'hposx).bs kn)) 57) ⟨hC3, bQ3⟩ ?_
  clear hC3 bQ3 hC bQ n1 n2 hPg hQg HC0 HP2
  rintro W5 ⟨hC, bQ⟩
  obtain ⟨x3, hx3⟩ : ∃ x3 : ImgArg, x3 = { x2 with cs := x2.cs.set 0 (setId (x2.cs[0]'hpos3) (bits .xor .i64 y 1)) } := ⟨_, rfl⟩
  have hpos4 : 0 < x3.cs.length := by rw [hx3]; show 0 < (x2.cs.set 0 _).length; rw [List.length_set]; exact hpos3
  have hid3 : (x3.cs[0]'hpos4).id = bits .xor .i64 y 1 := by
    subst hx3
    have : (x2.cs.set 0 (setId (x2.cs[0]'hpos3) (bits .xor .i64 y 1)))[0]'hpos4 = setId (x2.cs[0]'hpos3) (bits .xor .i64 y 1) := List.getElem_set_self _
    show ((x2.cs.set 0 (setId (x2.cs[0]'hpos3) (bits .xor .i64 y 1)))[0]'hpos4).id = _
    rw [this]
    rfl
  have hwf5 : (Lit.int .i64 x3.w).wf = true := by rw [hx3]; exact HWF3.out
  have hwf6 : (Lit.int .i64 x3.h).wf = true := by rw [hx3]; exact HWF4.out
  rw [← hx3] at hC hf3
  clear hx3
  have hno : sameB x3 x = false := same_no hpos4 hposx (by rw [hid3, ← HID2.out]; exact xor64_ne y)
  have HS3 := Lib.hid (fun W (h : LC N P x x3 w w2 W) => (show IsImg W (.agg #[.int .i64 x3.w, .int .i64 x3.h, x3.cu, x3.qu, x3.tu]) x3 from h.own.img (by have := hf3.c20; omega) (by have := hf3.q20; omega) (by have := hf3.t100; omega) hwf5 hwf6))
  have hs3 := fun W (h : LC N P x x3 w w2 W) => img_same x3 x hf3 W (HS3.out W h) h.li.img
  rw [hno] at hs3
  unfold ImgArg.val at hs3
  have HS := Lib.hid hs3
  clear hs3 hno hid3 hwf5 hwf6
  refine wp_region_det (fun W => LC N P x x3 w w2 W ∧ Blk W Q (ints .i16 (Pl.blk (x.cs[0]'hposx).bs kn)) 57) (by kernel_rfl) (by kernel_rfl) ⟨hC.below (Below.refl _ _).drew, bQ.drew⟩ ?_
  clear hC bQ
  (first | (refine det_skip (by rfl) ?_; simp only [Act.put, List.setIfInBounds_toArray, List.set_cons_zero, List.set_cons_succ]) | (refine det_pure (v := ?_) (by rfl) ?_ ?_; rotate_left; (intro wS hS; go_simp; try with_reducible rfl); simp only [Act.put, List.setIfInBounds_toArray, List.set_cons_zero, List.set_cons_succ]))
  refine det_pure (v := .slice (some am) x.cs.length mcap) (by rfl) (fun w1 hG => by have cy := M2.out w1 hG.1.li; go_simp; try with_reducible rfl) ?_
  simp only [Act.put, List.setIfInBounds_toArray, List.set_cons_zero, List.set_cons_succ]
  (first | (refine det_skip (by rfl) ?_; simp only [Act.put, List.setIfInBounds_toArray, List.set_cons_zero, List.set_cons_succ]) | (refine det_pure (v := ?_) (by rfl) ?_ ?_; rotate_left; (intro wS hS; go_simp; try with_reducible rfl); simp only [Act.put, List.setIfInBounds_toArray, List.set_cons_zero, List.set_cons_succ]))
  (first | (refine det_skip (by rfl) ?_; simp only [Act.put, List.setIfInBounds_toArray, List.set_cons_zero, List.set_cons_succ]) | (refine det_pure (v := ?_) (by rfl) ?_ ?_; rotate_left; (intro wS hS; go_simp; try with_reducible rfl); simp only [Act.put, List.setIfInBounds_toArray, List.set_cons_zero, List.set_cons_succ]))
  (first | (refine det_skip (by rfl) ?_; simp only [Act.put, List.setIfInBounds_toArray, List.set_cons_zero, List.set_cons_succ]) | (refine det_pure (v := ?_) (by rfl) ?_ ?_; rotate_left; (intro wS hS; go_simp; try with_reducible rfl); simp only [Act.put, List.setIfInBounds_toArray, List.set_cons_zero, List.set_cons_succ]))
  refine det_pure (v := .slice (some ad) (x.cs[0]'hposx).bs.length acap) (by rfl) (fun w1 hG => by have cy := M6.out w1 hG.1.li; go_simp; try with_reducible rfl) ?_
  simp only [Act.put, List.setIfInBounds_toArray, List.set_cons_zero, List.set_cons_succ]
  (first | (refine det_skip (by rfl) ?_; simp only [Act.put, List.setIfInBounds_toArray, List.set_cons_zero, List.set_cons_succ]) | (refine det_pure (v := ?_) (by rfl) ?_ ?_; rotate_left; (intro wS hS; go_simp; try with_reducible rfl); simp only [Act.put, List.setIfInBounds_toArray, List.set_cons_zero, List.set_cons_succ]))
  (first | (refine det_skip (by rfl) ?_; simp only [Act.put, List.setIfInBounds_toArray, List.set_cons_zero, List.set_cons_succ]) | (refine det_pure (v := ?_) (by rfl) ?_ ?_; rotate_left; (intro wS hS; go_simp; try with_reducible rfl); simp only [Act.put, List.setIfInBounds_toArray, List.set_cons_zero, List.set_cons_succ]))
  refine det_pure (by rfl) (fun w1 hG => ar_loadx (HAM.out _ hG.1.li) HOK0.out.h64 kn hkx _ (Pl.blk_get hkx) _ rfl rfl) ?_
  simp only [Act.put, List.setIfInBounds_toArray, List.set_cons_zero, List.set_cons_succ]
  refine det_pure (by rfl) (fun w1 hG => run_exec_load_row 57 _ rfl Q rfl 57 _ _ hG.2 Try.underlying57 rfl (by rw [ints_size, hwl]; kernel_rfl)) ?_
  simp only [Act.put, List.setIfInBounds_toArray, List.set_cons_zero, List.set_cons_succ]
  refine det_pure (v := .bool true) (by rfl) (fun w1 _ => by rw [run_exec_eql_ints 57 _ _ _ rfl 55 64 .i16 (Pl.blk (x.cs[0]'hposx).bs kn) (Pl.blk (x.cs[0]'hposx).bs kn) rfl rfl Try.underlying57 Try.underlying55 (by kernel_rfl) hwl hwl (by kernel_rfl), decide_eq_true rfl]) ?_
  simp only [Act.put, List.setIfInBounds_toArray, List.set_cons_zero, List.set_cons_succ]
  (first | (refine det_skip (by rfl) ?_; simp only [Act.put, List.setIfInBounds_toArray, List.set_cons_zero, List.set_cons_succ]) | (refine det_pure (v := ?_) (by rfl) ?_ ?_; rotate_left; (intro wS hS; go_simp; try with_reducible rfl); simp only [Act.put, List.setIfInBounds_toArray, List.set_cons_zero, List.set_cons_succ]))
  refine det_pure (by rfl) (fun w1 hS => run_exec_load_row 26 _ rfl P rfl 26 _ _ hS.1.bP Try.underlying26 rfl (by kernel_rfl)) ?_
  simp only [Act.put, List.setIfInBounds_toArray, List.set_cons_zero, List.set_cons_succ]
  refine det_pure (by rfl) (fun w1 hS => run_exec_load_row 26 _ rfl N rfl 26 _ _ hS.1.li.bN Try.underlying26 rfl (by kernel_rfl)) ?_
  simp only [Act.put, List.setIfInBounds_toArray, List.set_cons_zero, List.set_cons_succ]
  refine det_call (v := .bool false) (by rfl) (by intro wS hS; go_simp; first | done | exact ⟨rfl, rfl⟩) (fun W hS => (HS.out W hS.1).mono fun e w' hh => ⟨hh.1, hS.1.below hh.2, hS.2.below hh.2 hS.2.lt⟩) ?_
  simp only [Act.put, List.setIfInBounds_toArray, List.set_cons_zero, List.set_cons_succ]
  (repeat (first | (refine det_skip (by rfl) ?_; simp only [Act.put, List.setIfInBounds_toArray, List.set_cons_zero, List.set_cons_succ]) | (refine det_pure (v := ?_) (by rfl) ?_ ?_; rotate_left; (intro wS hS; go_simp; try with_reducible rfl); simp only [Act.put, List.setIfInBounds_toArray, List.set_cons_zero, List.set_cons_succ])))
  refine det_nil ?_
  intro W9 hS
  go_wp2
  go_ret
  exact ⟨rfl, hS.1.li.hB⟩
end imageCopies
theorem imageCopies.core (v0 : Value) (a0 : ImgArg) (a1 : Int) (w1 : (Lit.int .u8 a1).wf = true) (W : World) (s0 : IsImg W v0 a0) :
    Calls Try.prog 8 #[v0, .int .u8 a1] W fun e w' => e = .returned (.bool true) ∧ Below W.heap.size W w' := imageCopies.walk a0 a1 v0 W w1 s0
end Go.Proofs.Ytgmhhocpdfdplaa
