/- Package image: Copy. -/
import Derived.Test.YtgmhhocpdfdplaaCopyS
namespace Go.Proofs.Ytgmhhocpdfdplaa
open Go.RowKit
set_option maxRecDepth 100000
set_option maxHeartbeats 8000000
/-- An image of its own: rows of its own, each plane apart. -/
structure OwnI (N : Nat) (x : ImgArg) (w W : World) : Prop where
  c : CpC N x.cs.length x.cu x.cs w W
  q : Row W N 39 65 x.qu x.qs.length (x.qs.map QuantArg.cells).flatten
  t : Row W N 104 2 x.tu x.ts.length (x.ts.map TagArg.cells).flatten
  qok : ∀ q ∈ x.qs, q.Ok
  tok : ∀ t ∈ x.ts, t.Ok
structure SameD (x y : ImgArg) : Prop where
  w : y.w = x.w
  h : y.h = x.h
  cs : y.cs.map cd = x.cs.map cd
  qs : y.qs = x.qs
  ts : y.ts = x.ts
theorem tag_one (ts : List TagArg) : ∀ u ∈ (ts.map TagArg.cells).flatten, u.oneCell' = true := by
  intro u hu
  obtain ⟨c, hc, hu⟩ := List.mem_flatten.1 hu
  obtain ⟨x, hx, rfl⟩ := List.mem_map.1 hc
  simp only [TagArg.cells, List.mem_cons, List.not_mem_nil, or_false] at hu
  rcases hu with rfl | rfl <;> rfl
def shRow (n : Nat) (v : Value) : Prop := ∃ b cap, v = .slice b n cap
def fRow (e : TypeId) (size n : Nat) (xs : List Value) (v : Value) : Fact := fun lo hi w => Row w lo e size v n xs ∧ ∀ g, v.ownBlock = some g → g < hi
theorem fRow_mono (e : TypeId) (size n : Nat) (xs : List Value) (v : Value) : (fRow e size n xs v).Mono := by
  intro lo hi w w' h hs hB
  exact ⟨h.1.grow hB, h.2⟩
theorem img_copy (x : ImgArg) (hf : FewOk x) (w : World) (h : IsImg w x.val x) :
    Calls Try.prog 31 #[x.val] w fun r w' => ∃ x1, r = .returned x1.val ∧ SameD x x1 ∧ OwnI w.heap.size x1 w w' := by
  have hc20 := hf.c20
  have hq20 := hf.q20
  have ht100 := hf.t100
  have HF := Lib.hid hf.b300
  obtain ⟨N, hN⟩ : ∃ N, N = w.heap.size := ⟨_, rfl⟩
  have HN := Lib.hid hN
  rw [← hN]
  have hbe : Below w.heap.size w ((w.alloc (.cells #[.int .i64 x.w, .int .i64 x.h, x.cu, x.qu, x.tu] 26)).alloc (.cells #[.int .i64 0, .int .i64 0, .slice none 0 0, .slice none 0 0, .slice none 0 0] 26)) := ((Below.refl _ _).alloc (Nat.le_refl _) _).alloc (by simp) _
  have har : ∀ W, Below w.heap.size w W → Ar W 7 x.cu x.cs.length (x.cs.map CompArg.cells).flatten := fun W hb => by
    have := (h.cs.below hb).el.ar
    rwa [List.length_map] at this
  have haq : ∀ W, Below w.heap.size w W → Ar W 65 x.qu x.qs.length (x.qs.map QuantArg.cells).flatten := fun W hb => by
    have := (h.qs.el.below hb).ar
    rwa [List.length_map] at this
  have hat : ∀ W, Below w.heap.size w W → Ar W 2 x.tu x.ts.length (x.ts.map TagArg.cells).flatten := fun W hb => by
    have := (h.ts.el.below hb).ar
    rwa [List.length_map] at this
  have hcc := fun W hb => comp_clone x.cu x.cs.length _ (by omega) W (har W hb) (comp_one h.cs)
  have hqc := fun W hb => quant_clone x.qu x.qs.length _ (by omega) W (haq W hb) (quant_one x.qs)
  have htc := fun W hb => tag_clone x.tu x.ts.length _ (by omega) W (hat W hb) (tag_one x.ts)
  have HOK := Lib.hid h.cs.ok
  have HQO := Lib.hid h.qs.ok
  have HTO := Lib.hid h.ts.ok
  unfold ImgArg.val
  clear hN har haq hat h hf
  go_enter Try.func31, Try.ntmps31
  go_upto_region 1 with fail
  rw [← HN.out]
  refine wp_world (fun W => (Blk W N #[.int .i64 x.w, .int .i64 x.h, x.cu, x.qu, x.tu] 26 ∧ Blk W (N + 1) #[.int .i64 0, .int .i64 0, .slice none 0 0, .slice none 0 0, .slice none 0 0] 26) ∧ Below w.heap.size w W) ⟨⟨(Blk.new' _ _ _ HN.out).alloc _, Blk.new' _ _ _ (by rw [HN.out]; simp)⟩, hbe⟩ ?_
  clear hbe
  rintro W ⟨⟨bN, bM⟩, hB⟩
  have q2 := bN.cell 2
  go_upto_region 2 with (go_at_call 71; refine (hcc _ hB).mono ?_; rintro r w1 ⟨cu, rfl, hR1, hb1⟩; obtain ⟨cb, ccap, rfl⟩ := hR1.len; have bN1 := bN.below hb1 bN.lt; have qq := bN1.cell 2; have ff := bN1.free 2)
  have hNW : N ≤ W.heap.size := Nat.le_of_lt bN.lt
  have bM1 := bM.below hb1 bM.lt
  have hB1 : Below N w w1 := by rw [HN.out]; exact hB.trans (hb1.mono hB.size)
  have hN1 : N ≤ w1.heap.size := Nat.le_trans hNW hb1.size
  refine wp_world (fun W => (Blk W N #[.int .i64 x.w, .int .i64 x.h, .slice cb x.cs.length ccap, x.qu, x.tu] 26 ∧ Blk W (N + 1) #[.int .i64 0, .int .i64 0, .slice none 0 0, .slice none 0 0, .slice none 0 0] 26) ∧ CpC N 0 (.slice cb x.cs.length ccap) x.cs w W) ⟨⟨bN1.set 2 _, bM1.other _ _ (by show N + 1 ≠ N; omega)⟩, ?_⟩ ?_
  · refine ⟨(hR1.down hNW).other _ _ (hR1.typed bN1 (by decide)), fun i hi _ => HOK.out _ (List.getElem_mem hi), fun i hi hk => absurd hk (by omega), fun i hi hk => absurd hk (by omega), fun i j hi hj hk => absurd hk (by omega), HN.out, hB1.setCell (Nat.le_refl N) _, by simpa using hN1⟩
  clear bN bM hB q2 hR1 hb1 bN1 qq ff bM1 hB1 hcc hN1 hNW
  clear W w1
  rintro W ⟨⟨bN, bM⟩, hC⟩
  have q2 := bN.cell 2
  go_wp2
  clear q2
  go_loopw [11] (fun iv wr => ∃ k : Nat, k ≤ x.cs.length ∧ iv = .int .i64 k ∧ ∃ cs, cs.length = x.cs.length ∧ cs.map cd = x.cs.map cd ∧ (Blk wr N #[.int .i64 x.w, .int .i64 x.h, .slice cb cs.length ccap, x.qu, x.tu] 26 ∧ Blk wr (N + 1) #[.int .i64 0, .int .i64 0, .slice none 0 0, .slice none 0 0, .slice none 0 0] 26) ∧ CpC N k (.slice cb cs.length ccap) cs w wr) (fun iv _ => x.cs.length - (intOf iv).toNat)
  case atStart => exact ⟨0, Nat.zero_le _, rfl, x.cs, rfl, rfl, ⟨bN, bM⟩, hC⟩
  case round =>
    clear bN bM hC
    obtain ⟨k, hk, rfl, cs, hcl, hcd, ⟨bN, bM⟩, hC⟩ := hrel
    have HCL := Lib.hid hcl
    have HCD := Lib.hid hcd
    by_cases hlt : k < x.cs.length
    · have tl : decide (k < x.cs.length) = true := by simpa using hlt
      have hkc : k < cs.length := by rw [hcl]; exact hlt
      clear hcl hcd
      obtain ⟨g, cap', he, hlo, hgs, -⟩ := hC.row.cells (by omega)
      simp only [Value.slice.injEq] at he
      obtain ⟨rfl, -, rfl⟩ := he
      have j0 : (0 : Int) ≤ (k : Int) := by omega
      have j1 : (k : Int) < (cs.length : Int) := by omega
      have hok := hC.old k hkc (Nat.le_refl _)
      have hb3 : (cs[k]'hkc).bs.length ≤ 1000000 := by
        have e0 : cd (cs[k]'hkc) = cd (x.cs[k]'hlt) := by
          have := congrArg (fun l => l[k]?) HCD.out
          simpa [hkc, hlt] using this
        have e1 : (cs[k]'hkc).bs = (x.cs[k]'hlt).bs := congrArg (fun t => t.2.2.2) e0
        rw [e1]
        have := HF.out _ (List.getElem_mem hlt)
        omega
      obtain ⟨ub, ucap, hu, -, -⟩ := hok.ar.len
      have hcs : cs.length ≤ 1000000 := by rw [HCL.out]; omega
      have hadd : (⟨g, 0, none⟩ : Addr).add (k * 7) = ⟨g, k * 7, none⟩ := by unfold Addr.add; split <;> simp_all
      have c6 : ∀ W, CpC N k (.slice (some ⟨g, 0, none⟩) cs.length ccap) cs w W → W.cell? ⟨g, k * 7 + 4 + 2, none⟩ = some (.slice ub (cs[k]'hkc).bs.length ucap) := fun W hW => by
        obtain ⟨a', ha', -, -, -, -, -, -, c6⟩ := (hW.comps hcs).at hkc
        cases ha'
        rw [hadd, hu] at c6
        exact c6
      have hbc := fun W (hW : CpC N k (.slice (some ⟨g, 0, none⟩) cs.length ccap) cs w W) => blocks_clone (.slice ub (cs[k]'hkc).bs.length ucap) (cs[k]'hkc).bs.length (bcells (cs[k]'hkc).bs) hb3 W (by
        have := (hok.below (by rw [← hW.hN]; exact hW.hB)).ar
        rwa [hu] at this) (bcells_one _)
      have hGm : ∀ W W', ((Blk W N #[.int .i64 x.w, .int .i64 x.h, .slice (some ⟨g, 0, none⟩) cs.length ccap, x.qu, x.tu] 26 ∧ Blk W (N + 1) #[.int .i64 0, .int .i64 0, .slice none 0 0, .slice none 0 0, .slice none 0 0] 26) ∧ CpC N k (.slice (some ⟨g, 0, none⟩) cs.length ccap) cs w W) → Below W.heap.size W W' → ((Blk W' N #[.int .i64 x.w, .int .i64 x.h, .slice (some ⟨g, 0, none⟩) cs.length ccap, x.qu, x.tu] 26 ∧ Blk W' (N + 1) #[.int .i64 0, .int .i64 0, .slice none 0 0, .slice none 0 0, .slice none 0 0] 26) ∧ CpC N k (.slice (some ⟨g, 0, none⟩) cs.length ccap) cs w W') := fun W W' h hb => ⟨⟨h.1.1.below hb h.1.1.lt, h.1.2.below hb h.1.2.lt⟩, h.2.below hb⟩
      go_upto_region 5 with fail
      refine wp_region_mono [0, 1, 2, 3, 4, 5, 6, 7, 8, 9, 10, 11, 12, 13] [14] (fun W => (Blk W N #[.int .i64 x.w, .int .i64 x.h, .slice (some ⟨g, 0, none⟩) cs.length ccap, x.qu, x.tu] 26 ∧ Blk W (N + 1) #[.int .i64 0, .int .i64 0, .slice none 0 0, .slice none 0 0, .slice none 0 0] 26) ∧ CpC N k (.slice (some ⟨g, 0, none⟩) cs.length ccap) cs w W)
        (fun | 10 => some (sRel (shRow (cs[k]'hkc).bs.length) (fRow 57 64 (cs[k]'hkc).bs.length (bcells (cs[k]'hkc).bs))) | _ => none) (fun _ => []) (by kernel_rfl) (by kernel_rfl) (hGm _ _ ⟨⟨bN, bM⟩, hC⟩ (Below.refl _ _).drew) ?_ ?_
      · intro i s hs
        match i with
        | 10 => cases hs; exact fun _ _ => fRow_mono _ _ _ _ _
      simp only [pick, List.getD_cons_succ, List.getD_cons_zero, List.zip_cons_cons, List.zip_nil_right]
      (first | (refine mono_skip (by rfl) ?_; simp only [Act.put, List.setIfInBounds_toArray, List.set_cons_zero, List.set_cons_succ]) | (refine mono_pure (v := ?_) (by rfl) rfl ?_ ?_; rotate_left; (intro wS hS; go_simp; try with_reducible rfl); simp only [Act.put, List.setIfInBounds_toArray, List.set_cons_zero, List.set_cons_succ]))
      refine mono_pure (v := .slice (some ⟨g, 0, none⟩) cs.length ccap) (by rfl) rfl (fun w1 hG => by have cy : w1.cell? ⟨N, 2, none⟩ = some (.slice (some ⟨g, 0, none⟩) cs.length ccap) := hG.1.1.cell 2; go_simp; try with_reducible rfl) ?_
      simp only [Act.put, List.setIfInBounds_toArray, List.set_cons_zero, List.set_cons_succ]
      (first | (refine mono_skip (by rfl) ?_; simp only [Act.put, List.setIfInBounds_toArray, List.set_cons_zero, List.set_cons_succ]) | (refine mono_pure (v := ?_) (by rfl) rfl ?_ ?_; rotate_left; (intro wS hS; go_simp; try with_reducible rfl); simp only [Act.put, List.setIfInBounds_toArray, List.set_cons_zero, List.set_cons_succ]))
      (first | (refine mono_skip (by rfl) ?_; simp only [Act.put, List.setIfInBounds_toArray, List.set_cons_zero, List.set_cons_succ]) | (refine mono_pure (v := ?_) (by rfl) rfl ?_ ?_; rotate_left; (intro wS hS; go_simp; try with_reducible rfl); simp only [Act.put, List.setIfInBounds_toArray, List.set_cons_zero, List.set_cons_succ]))
      refine mono_pure (v := .slice (some ⟨g, 0, none⟩) cs.length ccap) (by rfl) rfl (fun w1 hG => by have cy : w1.cell? ⟨N, 2, none⟩ = some (.slice (some ⟨g, 0, none⟩) cs.length ccap) := hG.1.1.cell 2; go_simp; try with_reducible rfl) ?_
      simp only [Act.put, List.setIfInBounds_toArray, List.set_cons_zero, List.set_cons_succ]
      iterate 4 (first | (refine mono_skip (by rfl) ?_; simp only [Act.put, List.setIfInBounds_toArray, List.set_cons_zero, List.set_cons_succ]) | (refine mono_pure (v := ?_) (by rfl) rfl ?_ ?_; rotate_left; (intro wS hS; go_simp; try with_reducible rfl); simp only [Act.put, List.setIfInBounds_toArray, List.set_cons_zero, List.set_cons_succ]))
      refine mono_pure (v := .slice ub (cs[k]'hkc).bs.length ucap) (by rfl) rfl (fun w1 hG => by have cy := c6 w1 hG.2; go_simp; try with_reducible rfl) ?_
      simp only [Act.put, List.setIfInBounds_toArray, List.set_cons_zero, List.set_cons_succ]
      refine mono_rel (shRow (cs[k]'hkc).bs.length) (fRow 57 64 (cs[k]'hkc).bs.length (bcells (cs[k]'hkc).bs)) (by rfl) rfl hGm (by intro w hG; go_simp; first | done | exact ⟨rfl, rfl⟩) ⟨_, none, 0, rfl⟩ (fun w1 hG hH => ?_) (fun v3 hv3 => ?_)
      · refine (hbc w1 hG.2).mono ?_
        rintro e w2 ⟨v, rfl, hR, hb⟩
        obtain ⟨bv, cv, rfl⟩ := hR.len
        exact ⟨_, rfl, ⟨bv, cv, rfl⟩, hb, hR, fun g e => (hR.lt g e).2⟩
      obtain ⟨bv, cv, rfl⟩ := hv3
      simp only [Act.put, List.setIfInBounds_toArray, List.set_cons_zero, List.set_cons_succ]
      iterate 3 (first | (refine mono_skip (by rfl) ?_; simp only [Act.put, List.setIfInBounds_toArray, List.set_cons_zero, List.set_cons_succ]) | (refine mono_pure (v := ?_) (by rfl) rfl ?_ ?_; rotate_left; (intro wS hS; go_simp; try with_reducible rfl); simp only [Act.put, List.setIfInBounds_toArray, List.set_cons_zero, List.set_cons_succ]))
      refine mono_nil ?_
      rintro W5 ⟨⟨bN5, bM5⟩, hC5⟩ ⟨hbs, I, hI1, -⟩
      obtain ⟨i1, i2, i3, hRr, hRl⟩ := hI1 10 _ (upd_self _ _ _)
      have hNl : N ≤ wr.heap.size := Nat.le_of_lt bN.lt
      have hput := hC5.put hkc (.slice bv (cs[k]'hkc).bs.length cv) (Nat.le_trans hNl i1) hC i1 hRr
      obtain ⟨⟨a6, k6⟩, f6⟩ := hC5.row.spot (i := k * 7 + 6) (by omega)
      have htN : N ≠ g := fun e => hC5.row.typed bN5 (by decide) g rfl e.symm
      have htM : N + 1 ≠ g := fun e => hC5.row.typed bM5 (by decide) g rfl e.symm
      have bN6 := bN5.other ⟨g, k * 7 + 6, none⟩ (.slice bv (cs[k]'hkc).bs.length cv) htN
      have bM6 := bM5.other ⟨g, k * 7 + 6, none⟩ (.slice bv (cs[k]'hkc).bs.length cv) htM
      have hcd2 : (cs.set k (setU (cs[k]'hkc) (.slice bv (cs[k]'hkc).bs.length cv))).map cd = x.cs.map cd := by
        rw [← HCD.out]
        refine List.ext_getElem? fun i => ?_
        rw [List.getElem?_map, List.getElem?_map, List.getElem?_set]
        split
        · rename_i e; subst e; simp [hkc, cd, setU]
        · rfl
      have HCD2 := Lib.hid hcd2
      have HP := Lib.hid hput
      clear hcd2 hput hGm hI1 hC5 bN5 bM5 hC bN bM hbc c6 hok hRr hRl
      generalize (cs[k]'hkc).bs.length = z at *
      go_wp2
      refine ⟨⟨k + 1, by omega, by go_num, _, by rw [List.length_set]; exact HCL.out, HCD2.out, ⟨?_, bM6⟩, ?_⟩, by simp [intOf]; omega⟩
      · rw [List.length_set]; exact bN6
      · rw [List.length_set]; exact HP.out
    · obtain rfl : k = x.cs.length := by omega
      have tl : decide (x.cs.length < x.cs.length) = false := by simp
      have hqc2 := fun W (hW : CpC N x.cs.length (.slice cb cs.length ccap) cs w W) => hqc W (by rw [← hW.hN]; exact hW.hB)
      have htc2 := fun W (hW : CpC N x.cs.length (.slice cb cs.length ccap) cs w W) => htc W (by rw [← hW.hN]; exact hW.hB)
      have hGm : ∀ W W', ((Blk W N #[.int .i64 x.w, .int .i64 x.h, .slice cb cs.length ccap, x.qu, x.tu] 26 ∧ Blk W (N + 1) #[.int .i64 0, .int .i64 0, .slice none 0 0, .slice none 0 0, .slice none 0 0] 26) ∧ CpC N x.cs.length (.slice cb cs.length ccap) cs w W) → Below W.heap.size W W' → ((Blk W' N #[.int .i64 x.w, .int .i64 x.h, .slice cb cs.length ccap, x.qu, x.tu] 26 ∧ Blk W' (N + 1) #[.int .i64 0, .int .i64 0, .slice none 0 0, .slice none 0 0, .slice none 0 0] 26) ∧ CpC N x.cs.length (.slice cb cs.length ccap) cs w W') := fun W W' h hb => ⟨⟨h.1.1.below hb h.1.1.lt, h.1.2.below hb h.1.2.lt⟩, h.2.below hb⟩
      go_upto_region 7 with fail
      refine wp_region_mono [0, 1, 2, 3, 4, 5, 6] [7, 8, 9] (fun W => (Blk W N #[.int .i64 x.w, .int .i64 x.h, .slice cb cs.length ccap, x.qu, x.tu] 26 ∧ Blk W (N + 1) #[.int .i64 0, .int .i64 0, .slice none 0 0, .slice none 0 0, .slice none 0 0] 26) ∧ CpC N x.cs.length (.slice cb cs.length ccap) cs w W)
        (fun | 2 => some (sRel (shRow x.qs.length) (fRow 39 65 x.qs.length (x.qs.map QuantArg.cells).flatten)) | 5 => some (sRel (shRow x.ts.length) (fRow 104 2 x.ts.length (x.ts.map TagArg.cells).flatten)) | _ => none) (fun _ => []) (by kernel_rfl) (by kernel_rfl) (hGm _ _ ⟨⟨bN, bM⟩, hC⟩ (Below.refl _ _).drew) ?_ ?_
      · intro i s hs
        match i with
        | 2 => cases hs; exact fun _ _ => fRow_mono _ _ _ _ _
        | 5 => cases hs; exact fun _ _ => fRow_mono _ _ _ _ _
      simp only [pick, List.getD_cons_succ, List.getD_cons_zero, List.zip_cons_cons, List.zip_nil_right]
      (first | (refine mono_skip (by rfl) ?_; simp only [Act.put, List.setIfInBounds_toArray, List.set_cons_zero, List.set_cons_succ]) | (refine mono_pure (v := ?_) (by rfl) rfl ?_ ?_; rotate_left; (intro wS hS; go_simp; try with_reducible rfl); simp only [Act.put, List.setIfInBounds_toArray, List.set_cons_zero, List.set_cons_succ]))
      refine mono_pure (v := x.qu) (by rfl) rfl (fun w1 hG => by have cy : w1.cell? ⟨N, 3, none⟩ = some x.qu := hG.1.1.cell 3; go_simp; try with_reducible rfl) ?_
      simp only [Act.put, List.setIfInBounds_toArray, List.set_cons_zero, List.set_cons_succ]
      refine mono_rel (shRow x.qs.length) (fRow 39 65 x.qs.length (x.qs.map QuantArg.cells).flatten) (by rfl) rfl hGm (by intro w hG; go_simp; first | done | exact ⟨rfl, rfl⟩) ⟨_, none, 0, rfl⟩ (fun w1 hG hH => ?_) (fun v3 hv3 => ?_)
      · refine (hqc2 w1 hG.2).mono ?_
        rintro e w2 ⟨v, rfl, hR, hb⟩
        obtain ⟨bv, cv, rfl⟩ := hR.len
        exact ⟨_, rfl, ⟨bv, cv, rfl⟩, hb, hR, fun g e => (hR.lt g e).2⟩
      obtain ⟨qb, qcap, rfl⟩ := hv3
      simp only [Act.put, List.setIfInBounds_toArray, List.set_cons_zero, List.set_cons_succ]
      (first | (refine mono_skip (by rfl) ?_; simp only [Act.put, List.setIfInBounds_toArray, List.set_cons_zero, List.set_cons_succ]) | (refine mono_pure (v := ?_) (by rfl) rfl ?_ ?_; rotate_left; (intro wS hS; go_simp; try with_reducible rfl); simp only [Act.put, List.setIfInBounds_toArray, List.set_cons_zero, List.set_cons_succ]))
      refine mono_pure (v := x.tu) (by rfl) rfl (fun w1 hG => by have cy : w1.cell? ⟨N, 4, none⟩ = some x.tu := hG.1.1.cell 4; go_simp; try with_reducible rfl) ?_
      simp only [Act.put, List.setIfInBounds_toArray, List.set_cons_zero, List.set_cons_succ]
      refine mono_rel (shRow x.ts.length) (fRow 104 2 x.ts.length (x.ts.map TagArg.cells).flatten) (by rfl) rfl hGm (by intro w hG; go_simp; first | done | exact ⟨rfl, rfl⟩) ⟨_, none, 0, rfl⟩ (fun w1 hG hH => ?_) (fun v4 hv4 => ?_)
      · refine (htc2 w1 hG.2).mono ?_
        rintro e w2 ⟨v, rfl, hR, hb⟩
        obtain ⟨bv, cv, rfl⟩ := hR.len
        exact ⟨_, rfl, ⟨bv, cv, rfl⟩, hb, hR, fun g e => (hR.lt g e).2⟩
      obtain ⟨tb, tcap, rfl⟩ := hv4
      simp only [Act.put, List.setIfInBounds_toArray, List.set_cons_zero, List.set_cons_succ]
      (first | (refine mono_skip (by rfl) ?_; simp only [Act.put, List.setIfInBounds_toArray, List.set_cons_zero, List.set_cons_succ]) | (refine mono_pure (v := ?_) (by rfl) rfl ?_ ?_; rotate_left; (intro wS hS; go_simp; try with_reducible rfl); simp only [Act.put, List.setIfInBounds_toArray, List.set_cons_zero, List.set_cons_succ]))
      refine mono_nil ?_
      rintro W5 ⟨⟨bN5, bM5⟩, hC5⟩ ⟨hbs, I, hI1, -⟩
      obtain ⟨i1, i2, i3, hQr, -⟩ := hI1 2 _ rfl
      obtain ⟨k1, k2, k3, hTr, -⟩ := hI1 5 _ (upd_self _ _ _)
      have hNl : N ≤ wr.heap.size := Nat.le_of_lt bN.lt
      replace hQr := hQr.down (Nat.le_trans hNl i1)
      replace hTr := hTr.down (Nat.le_trans hNl k1)
      have m3 := bN5.cell 3
      have f3 := bN5.free 3
      have bN6 := bN5.set 3 (.slice qb x.qs.length qcap)
      have m4 := bN6.cell 4
      have f4 := bN6.free 4
      have bN7 := bN6.set 4 (.slice tb x.ts.length tcap)
      have bM7 := (bM5.other ⟨N, 3, none⟩ (.slice qb x.qs.length qcap) (by show N + 1 ≠ N; omega)).other ⟨N, 4, none⟩ (.slice tb x.ts.length tcap) (by show N + 1 ≠ N; omega)
      have hC7 : CpC N x.cs.length (.slice cb cs.length ccap) cs w ((W5.setCell ⟨N, 3, none⟩ (.slice qb x.qs.length qcap)).setCell ⟨N, 4, none⟩ (.slice tb x.ts.length tcap)) := by
        refine hC5.same (fun g hg => ?_) ((hC5.hB.setCell (Nat.le_refl N) _).setCell (Nat.le_refl N) _) (by simpa using hC5.hW)
        have hgn : g ≠ N := by
          intro e
          subst e
          obtain ⟨cur, hb | hb⟩ := hg
          · have := bN5.symm.trans hb; simp at this
          · have := bN5.symm.trans hb; simp at this
        exact (heap_setCell_other _ _ _ _ hgn).trans (heap_setCell_other _ _ _ _ hgn)
      have hQ7 := (hQr.other ⟨N, 3, none⟩ (.slice qb x.qs.length qcap) (hQr.typed bN5 (by decide))).other ⟨N, 4, none⟩ (.slice tb x.ts.length tcap) (hQr.typed bN5 (by decide))
      have hT7 := (hTr.other ⟨N, 3, none⟩ (.slice qb x.qs.length qcap) (hTr.typed bN5 (by decide))).other ⟨N, 4, none⟩ (.slice tb x.ts.length tcap) (hTr.typed bN5 (by decide))
      clear hGm hI1 hQr hTr hC5 bN5 bM5 bN6 hC bN bM hqc2 htc2 hqc htc
      go_upto_region 8 with fail
      refine wp_world (fun W => (Blk W N #[.int .i64 x.w, .int .i64 x.h, .slice cb cs.length ccap, .slice qb x.qs.length qcap, .slice tb x.ts.length tcap] 26 ∧ Blk W (N + 1) #[.int .i64 0, .int .i64 0, .slice none 0 0, .slice none 0 0, .slice none 0 0] 26) ∧ CpC N x.cs.length (.slice cb cs.length ccap) cs w W ∧ Row W N 39 65 (.slice qb x.qs.length qcap) x.qs.length (x.qs.map QuantArg.cells).flatten ∧ Row W N 104 2 (.slice tb x.ts.length tcap) x.ts.length (x.ts.map TagArg.cells).flatten) ⟨⟨bN7, bM7⟩, hC7, hQ7, hT7⟩ ?_
      clear bN7 bM7 hC7 hQ7 hT7 m3 m4 f3 f4
      rintro W8 ⟨⟨bN, bM⟩, hC, hQ, hT⟩
      go_wp2_with (first | (refine wpList_load_row rfl 26 _ rfl N rfl 26 _ _ _ bN Try.underlying26 rfl (by kernel_rfl) ?_) | (refine wpList_store_row rfl 26 _ _ rfl (N + 1) _ rfl rfl 26 _ bM (by kernel_rfl) rfl (by simp [Value.oneCell']) ?_))
      simp only [Act.put, List.setIfInBounds_toArray, List.set_cons_zero, List.set_cons_succ]
      refine bodyPost_ret (results_cell_row rfl _ _ (N + 1) 26 _ (0, 0) _ rfl (bM.row _) Try.underlying26 rfl (by kernel_rfl)) rfl ?_
      refine ⟨⟨x.w, x.h, .slice cb cs.length ccap, .slice qb x.qs.length qcap, .slice tb x.ts.length tcap, cs, x.qs, x.ts⟩, rfl, ⟨rfl, rfl, HCD.out, rfl, rfl⟩, ⟨?_, hQ.same fun g e => setRow_other _ _ _ _ (hQ.typed bM (by decide) g e), hT.same fun g e => setRow_other _ _ _ _ (hT.typed bM (by decide) g e), HQO.out, HTO.out⟩⟩
      show CpC N cs.length (.slice cb cs.length ccap) cs w _
      rw [HCL.out]
      have hC' := hC
      rw [HCL.out] at hC'
      refine hC'.same (fun g hg => ?_) (Below.setRow hC.hB (Nat.le_succ N) _) (by simpa using hC.hW)
      have hgn : g ≠ N + 1 := by
        intro e
        subst e
        obtain ⟨cur, hb | hb⟩ := hg
        · have := bM.symm.trans hb; simp at this
        · have := bM.symm.trans hb; simp at this
      exact setRow_other _ _ _ _ hgn
end Go.Proofs.Ytgmhhocpdfdplaa
