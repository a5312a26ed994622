/- Package image: Blank. -/
import Derived.Test.YtgmhhocpdfdplaaBlankS
import Derived.Test.YtgmhhocpdfdplaaSizeE
namespace Go.Proofs.Ytgmhhocpdfdplaa
open Go.RowKit
set_option maxRecDepth 100000
set_option maxHeartbeats 8000000
def zeroImg : Value := .agg #[.int .i64 0, .int .i64 0, .slice none 0 0, .slice none 0 0, .slice none 0 0]
/-- A blank image of x's sides, components and tables. -/
structure BlankOf (x x1 : ImgArg) : Prop where
  w : x1.w = x.w
  h : x1.h = x.h
  qs : x1.qs = x.qs
  ts : x1.ts = []
  cs : BlankTo x.cs (frG x) x.cs.length x1.cs
  few : FewOk x1
def BlankRes (x : ImgArg) (v : Value) (e : Int) (w' : World) : Prop :=
  (frE x ≠ 0 → e = frE x ∧ v = zeroImg) ∧ (frE x = 0 → ∃ x1, BlankOf x x1 ∧ e = imgE x1 ∧ (e ≠ 0 → v = zeroImg) ∧ (e = 0 → v = x1.val ∧ IsImg w' x1.val x1))
theorem comp_one {w : World} {v : Value} {cs : List CompArg} (h : IsComps w v cs) : ∀ u ∈ (cs.map CompArg.cells).flatten, u.oneCell' = true := by
  intro u hu
  obtain ⟨c, hc, hu⟩ := List.mem_flatten.1 hu
  obtain ⟨x, hx, rfl⟩ := List.mem_map.1 hc
  obtain ⟨b, cap, he, -⟩ := (h.ok x hx).ar.len
  simp only [CompArg.cells, List.mem_cons, List.not_mem_nil, or_false] at hu
  rcases hu with rfl | rfl | rfl | rfl | rfl | rfl | rfl
  all_goals first | rfl | (rw [he]; rfl)
theorem quant_one (qs : List QuantArg) : ∀ u ∈ (qs.map QuantArg.cells).flatten, u.oneCell' = true := by
  intro u hu
  obtain ⟨c, hc, hu⟩ := List.mem_flatten.1 hu
  obtain ⟨x, hx, rfl⟩ := List.mem_map.1 hc
  simp only [QuantArg.cells, List.mem_cons, List.mem_map] at hu
  rcases hu with rfl | ⟨y, _, rfl⟩ <;> rfl
def shPl (c r : Nat) (n : Nat) (v : Value) : Prop := ∃ b cap, v = .agg #[.int .i64 c, .int .i64 r, .slice b n cap]
def fPl (bs : List (List Int)) (v : Value) : Fact := fun lo hi w => ∃ u, (∃ x y, v = .agg #[x, y, u]) ∧ Row w lo 57 64 u bs.length (bcells bs) ∧ ∀ g, u.ownBlock = some g → g < hi
theorem fPl_mono (bs : List (List Int)) (v : Value) : (fPl bs v).Mono := by
  intro lo hi w w' h hs hB
  obtain ⟨u, h1, h2, h3⟩ := h
  exact ⟨u, h1, h2.grow hB, h3⟩
theorem Row.blk {w : World} {lo : Nat} {e : TypeId} {size n g cap : Nat} {xs : List Value} (h : Row w lo e size (.slice (some ⟨g, 0, none⟩) n cap) n xs) : ∃ cur, Blk w g cur e := by
  rcases h.2 with ⟨h0, _⟩ | ⟨g', cap', cur, h0, h2, h3, _⟩
  · cases h0
  · cases h0; exact ⟨_, h3⟩
theorem Row.spot {w : World} {lo : Nat} {e : TypeId} {size n g cap : Nat} {xs : List Value} (h : Row w lo e size (.slice (some ⟨g, 0, none⟩) n cap) n xs) {i : Nat} (hi : i < n * size) :
    (∃ a, w.cell? ⟨g, i, none⟩ = some a) ∧ w.frozen? ⟨g, i, none⟩ = false := by
  rcases h.2 with ⟨h0, _⟩ | ⟨g', cap', cur, h0, h2, h3, h4, h5, h6, h7⟩
  · cases h0
  · cases h0
    have h8 : n * size ≤ cap * size := Nat.mul_le_mul_right _ h4
    exact ⟨⟨_, (h3.cell i).trans (Array.getElem?_eq_getElem (by omega))⟩, h3.free i⟩
theorem img_blank (x : ImgArg) (hf : FewOk x) (w : World) (h : IsImg w x.val x) :
    Calls Try.prog 26 #[.int .i64 x.w, .int .i64 x.h, x.cu, x.qu] w fun r w' => ∃ v e, r = .returned (.tuple #[v, .int .i64 e]) ∧ Below w.heap.size w w' ∧ BlankRes x v e w' := by
  have hc20 := hf.c20
  have hq20 := hf.q20
  obtain ⟨N, hN⟩ : ∃ N, N = w.heap.size := ⟨_, rfl⟩
  have HN := Lib.hid hN
  rw [← hN]
  have hbe : Below w.heap.size w (w.alloc (.cells #[.int .i64 0, .int .i64 0, .slice none 0 0, .slice none 0 0, .slice none 0 0] 26)) := (Below.refl _ _).alloc (Nat.le_refl _) _
  have har : ∀ W, Below w.heap.size w W → Ar W 7 x.cu x.cs.length (x.cs.map CompArg.cells).flatten := fun W hb => by
    have := (h.cs.below hb).el.ar
    rwa [List.length_map] at this
  have haq : ∀ W, Below w.heap.size w W → Ar W 65 x.qu x.qs.length (x.qs.map QuantArg.cells).flatten := fun W hb => by
    have := (h.qs.el.below hb).ar
    rwa [List.length_map] at this
  have hcc := fun W hb => comp_clone x.cu x.cs.length _ (by omega) W (har W hb) (comp_one h.cs)
  have hqc := fun W hb => quant_clone x.qu x.qs.length _ (by omega) W (haq W hb) (quant_one x.qs)
  clear hN har haq
  go_enter Try.func26, Try.ntmps26
  go_upto_region 1 with fail
  rw [← HN.out]
  refine wp_world (fun W => Blk W N #[.int .i64 0, .int .i64 0, .slice none 0 0, .slice none 0 0, .slice none 0 0] 26 ∧ Below w.heap.size w W) ⟨Blk.new' _ _ _ HN.out, hbe⟩ ?_
  clear hbe
  rintro W ⟨bN, hB⟩
  go_upto_region 2 with (first | (go_at_call 71; refine (hcc _ hB).mono ?_; rintro r w1 ⟨cu, rfl, hR1, hb1⟩; have hB1 := hB.trans (hb1.mono hB.size); obtain ⟨cb, ccap, rfl⟩ := hR1.len) | (go_at_call 72; refine (hqc _ hB1).mono ?_; rintro r w2 ⟨qu, rfl, hR2, hb2⟩; obtain ⟨qb, qcap, rfl⟩ := hR2.len))
  obtain ⟨M, hM⟩ : ∃ M, M = w2.heap.size := ⟨_, rfl⟩
  rw [← hM]
  have hS : BkS N M ⟨x.w, x.h, .slice cb x.cs.length ccap, .slice qb x.qs.length qcap, .slice none 0 0, x.cs, x.qs, []⟩ w (w2.alloc (.cells #[.int .i64 x.w, .int .i64 x.h, .slice cb x.cs.length ccap, .slice qb x.qs.length qcap, .slice none 0 0] 26)) := by
    have hNl := bN.lt
    have hal := (Below.refl w2.heap.size w2).alloc (Nat.le_refl _) (.cells #[.int .i64 x.w, .int .i64 x.h, .slice cb x.cs.length ccap, .slice qb x.qs.length qcap, .slice none 0 0] 26)
    have hN1 : N < w1.heap.size := Nat.lt_of_lt_of_le hNl hb1.size
    have hN2 : N < w2.heap.size := Nat.lt_of_lt_of_le hN1 hb2.size
    refine ⟨((bN.below hb1 hNl).below hb2 hN1).alloc _, Blk.new' _ _ _ hM, ((hR1.down (Nat.le_of_lt hNl)).grow hb2).grow hal, (hR2.down (Nat.le_of_lt hN1)).grow hal, fun c hc => .inl (h.cs.ok c hc), h.qs.ok, by omega, HN.out, ?_⟩
    have := hB1.trans (hb2.mono hB1.size)
    rw [← HN.out] at this
    exact this.alloc (by omega) _
  refine wp_world (BkS N M ⟨x.w, x.h, .slice cb x.cs.length ccap, .slice qb x.qs.length qcap, .slice none 0 0, x.cs, x.qs, []⟩ w) hS ?_
  clear hS hR1 hR2 hb1 hb2 hB hB1 hcc hqc bN hM
  clear w1 w2 W
  intro W hS
  have hI := hS.img (by simp only; omega) (by simp only; omega) h.ww h.wh rfl rfl
  have hfr := img_frame _ W hI (by exact hc20)
  have efr : ∀ cu qu tu, frE ⟨x.w, x.h, cu, qu, tu, x.cs, x.qs, []⟩ = frE x := fun _ _ _ => rfl
  have egr : ∀ cu qu tu, frG ⟨x.w, x.h, cu, qu, tu, x.cs, x.qs, []⟩ = frG x := fun _ _ _ => rfl
  rw [efr, egr] at hfr
  unfold ImgArg.val at hfr
  simp only at hfr
  clear hI
  by_cases h0 : frE x = 0
  · have GOK := Lib.hid (fun k hk => frG_ok h0 (k := k) hk)
    have hgl := frG_len x
    rw [h0] at hfr
    have bM := hS.bM
    simp only at bM
    go_upto_region 3 with (first | (refine wpList_load_row rfl 26 _ rfl M rfl 26 _ _ _ bM Try.underlying26 rfl (by kernel_rfl) ?_) | (go_at_call 48; refine hfr.mono ?_; rintro r w1 ⟨f, rfl, hb1, -, hf2⟩; obtain ⟨F, rfl, hF⟩ := hf2 rfl))
    have hS1 := hS.below hb1
    clear hS hb1 hfr bM
    have q2 : w1.cell? ⟨M, 2, none⟩ = some (.slice cb x.cs.length ccap) := hS1.bM.cell 2
    go_wp2
    clear q2
    go_loopw [38] (fun iv wr => ∃ k : Nat, k ≤ x.cs.length ∧ iv = .int .i64 k ∧ ∃ cs, BlankTo x.cs (frG x) k cs ∧ BkS N M ⟨x.w, x.h, .slice cb x.cs.length ccap, .slice qb x.qs.length qcap, .slice none 0 0, cs, x.qs, []⟩ w wr ∧ IsFr wr F (frG x)) (fun iv _ => x.cs.length - (intOf iv).toNat)
    case atStart => exact ⟨0, Nat.zero_le _, rfl, x.cs, BlankTo.zero _ _, hS1, hF⟩
    case round =>
      clear hS1 hF
      obtain ⟨k, hk, rfl, cs, hT, hS, hF⟩ := hrel
      by_cases hlt : k < x.cs.length
      · have tl : decide (k < x.cs.length) = true := by simpa using hlt
        have hgk : k < (frG x).length := by omega
        obtain ⟨p1, p2, p3⟩ := GOK.out k hgk
        have hgrid := fun W h => fr_grid F (frG x) k hgk W h
        obtain ⟨gr, hgr⟩ : ∃ gr, (frG x)[k]'hgk = gr := ⟨_, rfl⟩
        rw [hgr] at p1 p2 p3 hgrid
        obtain ⟨g0, g1, g2, g3⟩ := gr
        simp only at p1 p2 p3 hgrid
        obtain ⟨cn, rfl⟩ : ∃ n : Nat, g0 = n := ⟨g0.toNat, by omega⟩
        obtain ⟨rn, rfl⟩ : ∃ n : Nat, g1 = n := ⟨g1.toNat, by omega⟩
        have hsz := sized_of p1 p2 p3
        have hcr : cn * rn ≤ 16384 := by
          have : ((cn * rn : Nat) : Int) ≤ 16384 := by rw [Int.natCast_mul]; exact p3
          exact Int.ofNat_le.1 this
        have hkc : k < cs.length := by rw [hT.len]; exact hlt
        have hgd : (frG x).getD k noGrid = ⟨cn, rn, g2, g3⟩ := by rw [← hgr]; simp [List.getD_eq_getElem?_getD, hgk]
        have HGD := Lib.hid hgd
        obtain ⟨g, cap', he, hlo, hgs, -⟩ := hS.row.cells (by simp only; omega)
        simp only [Value.slice.injEq] at he
        obtain ⟨rfl, -, rfl⟩ := he
        have hTs := Lib.hid (fun v => hT.step hkc ⟨cn, rn, g2, g3⟩ HGD.out v)
        have HP3 := Lib.hid p3
        have j0 : (0 : Int) ≤ (k : Int) := by omega
        have j1 : (k : Int) < (x.cs.length : Int) := by omega
        clear hgr hgd p3
        go_upto_region 9 with (first | (go_at_call 73; refine (hgrid _ hF).mono ?_; rintro r w2 ⟨rfl, hb2⟩; obtain ⟨P, hP⟩ : ∃ P, P = w2.heap.size := ⟨_, rfl⟩; have HP := Lib.hid hP; clear hP) | (refine wpList_store_row rfl 116 _ _ rfl P _ (by rw [HP.out]; rfl) rfl 116 _ (Blk.new' _ _ _ HP.out) (by kernel_rfl) rfl (by simp [Value.oneCell']) ?_))
        rw [← HP.out]
        have hbP : Below w2.heap.size w2 ((w2.alloc (.cells #[.int .i64 0, .int .i64 0, .int .i64 0, .int .i64 0] 116)).setRow P #[.int .i64 cn, .int .i64 rn, .int .i64 g2, .int .i64 g3]) := Below.setRow ((Below.refl _ _).alloc (Nat.le_refl _) _) (Nat.le_of_eq HP.out.symm) _
        refine wp_world (fun W => BkS N M ⟨x.w, x.h, .slice (some ⟨g, 0, none⟩) x.cs.length ccap, .slice qb x.qs.length qcap, .slice none 0 0, cs, x.qs, []⟩ w W ∧ IsFr W F (frG x) ∧ Blk W P #[.int .i64 cn, .int .i64 rn, .int .i64 g2, .int .i64 g3] 116) ⟨(hS.below hb2).below hbP, (hF.below hb2).below hbP, (Blk.new' _ _ _ HP.out).row _⟩ ?_
        clear hbP hb2 hS hF hgrid
        rintro W3 ⟨hS, hF, bP⟩
        have q0 := bP.cell 0
        have q1 := bP.cell 1
        have hpn := fun W => plane_new cn rn hsz W
        go_upto_region 10 with (go_at_call 74; refine (hpn _).mono ?_; rintro r w4 ⟨sb, su, rfl, hSh, hsb, hb4⟩)
        have hL := Lib.hid (Nat.le_trans (Nat.le_of_lt hS.bN.lt) (Nat.le_refl W3.heap.size))
        refine wp_world (fun W => BkS N M ⟨x.w, x.h, .slice (some ⟨g, 0, none⟩) x.cs.length ccap, .slice qb x.qs.length qcap, .slice none 0 0, cs, x.qs, []⟩ w W ∧ IsFr W F (frG x) ∧ Pl.Sheet W W3.heap.size sb cn rn su (List.replicate (cn * rn) (List.replicate 64 0))) ⟨hS.below hb4, hF.below hb4, hSh⟩ ?_
        clear hS hF bP q0 q1 hpn hSh hb4 hsb
        generalize W3.heap.size = L at *
        rintro W4 ⟨hS, hF, hSh⟩
        have hNW : N ≤ W4.heap.size := Nat.le_of_lt hS.bN.lt
        have hGm : ∀ W W', (BkS N M ⟨x.w, x.h, .slice (some ⟨g, 0, none⟩) x.cs.length ccap, .slice qb x.qs.length qcap, .slice none 0 0, cs, x.qs, []⟩ w W ∧ IsFr W F (frG x) ∧ Pl.Sheet W L sb cn rn su (List.replicate (cn * rn) (List.replicate 64 0))) → Below W.heap.size W W' → (BkS N M ⟨x.w, x.h, .slice (some ⟨g, 0, none⟩) x.cs.length ccap, .slice qb x.qs.length qcap, .slice none 0 0, cs, x.qs, []⟩ w W' ∧ IsFr W' F (frG x) ∧ Pl.Sheet W' L sb cn rn su (List.replicate (cn * rn) (List.replicate 64 0))) := fun W W' h hb => ⟨h.1.below hb, h.2.1.below hb, h.2.2.below hb⟩
        have hsp := fun W h => sheet_plane L sb cn rn su (List.replicate (cn * rn) (List.replicate 64 0)) hcr W h
        refine wp_region_mono [0, 1, 2, 3, 4, 5, 6] [7] (fun W => BkS N M ⟨x.w, x.h, .slice (some ⟨g, 0, none⟩) x.cs.length ccap, .slice qb x.qs.length qcap, .slice none 0 0, cs, x.qs, []⟩ w W ∧ IsFr W F (frG x) ∧ Pl.Sheet W L sb cn rn su (List.replicate (cn * rn) (List.replicate 64 0)))
          (fun | 4 => some (sRel (shPl cn rn (cn * rn)) (fPl (List.replicate (cn * rn) (List.replicate 64 0)))) | _ => none) (fun _ => []) (by kernel_rfl) (by kernel_rfl) (hGm _ _ ⟨hS, hF, hSh⟩ (Below.refl _ _).drew) ?_ ?_
        · intro i s hs
          match i with
          | 4 => cases hs; exact fun _ _ => fPl_mono _ _
        clear hS hF hSh
        simp only [pick, List.getD_cons_succ, List.getD_cons_zero, List.zip_cons_cons, List.zip_nil_right]
        (first | (refine mono_skip (by rfl) ?_; simp only [Act.put, List.setIfInBounds_toArray, List.set_cons_zero, List.set_cons_succ]) | (refine mono_pure (v := ?_) (by rfl) rfl ?_ ?_; rotate_left; (intro wS hS; go_simp; try with_reducible rfl); simp only [Act.put, List.setIfInBounds_toArray, List.set_cons_zero, List.set_cons_succ]))
        refine mono_pure (v := .slice (some ⟨g, 0, none⟩) x.cs.length ccap) (by rfl) rfl (fun w1 hG => by have cy : w1.cell? ⟨M, 2, none⟩ = some (.slice (some ⟨g, 0, none⟩) x.cs.length ccap) := hG.1.bM.cell 2; go_simp; try with_reducible rfl) ?_
        simp only [Act.put, List.setIfInBounds_toArray, List.set_cons_zero, List.set_cons_succ]
        (first | (refine mono_skip (by rfl) ?_; simp only [Act.put, List.setIfInBounds_toArray, List.set_cons_zero, List.set_cons_succ]) | (refine mono_pure (v := ?_) (by rfl) rfl ?_ ?_; rotate_left; (intro wS hS; go_simp; try with_reducible rfl); simp only [Act.put, List.setIfInBounds_toArray, List.set_cons_zero, List.set_cons_succ]))
        (first | (refine mono_skip (by rfl) ?_; simp only [Act.put, List.setIfInBounds_toArray, List.set_cons_zero, List.set_cons_succ]) | (refine mono_pure (v := ?_) (by rfl) rfl ?_ ?_; rotate_left; (intro wS hS; go_simp; try with_reducible rfl); simp only [Act.put, List.setIfInBounds_toArray, List.set_cons_zero, List.set_cons_succ]))
        refine mono_rel (shPl cn rn (cn * rn)) (fPl (List.replicate (cn * rn) (List.replicate 64 0))) (by rfl) rfl hGm (by intro w hG; go_simp; first | done | exact ⟨rfl, rfl⟩) ⟨_, none, 0, rfl⟩ (fun w1 hG hH => ?_) (fun v3 hv3 => ?_)
        · refine (hsp w1 hG.2.2).mono ?_
          rintro e w2 ⟨v, rfl, hR, hb⟩
          obtain ⟨bv, cv, rfl⟩ := hR.len
          exact ⟨_, rfl, ⟨bv, cv, by rw [List.length_replicate]⟩, hb, _, ⟨_, _, rfl⟩, hR, fun g e => (hR.lt g e).2⟩
        obtain ⟨bv, cv, rfl⟩ := hv3
        simp only [Act.put, List.setIfInBounds_toArray, List.set_cons_zero, List.set_cons_succ]
        (first | (refine mono_skip (by rfl) ?_; simp only [Act.put, List.setIfInBounds_toArray, List.set_cons_zero, List.set_cons_succ]) | (refine mono_pure (v := ?_) (by rfl) rfl ?_ ?_; rotate_left; (intro wS hS; go_simp; try with_reducible rfl); simp only [Act.put, List.setIfInBounds_toArray, List.set_cons_zero, List.set_cons_succ]))
        (first | (refine mono_skip (by rfl) ?_; simp only [Act.put, List.setIfInBounds_toArray, List.set_cons_zero, List.set_cons_succ]) | (refine mono_pure (v := ?_) (by rfl) rfl ?_ ?_; rotate_left; (intro wS hS; go_simp; try with_reducible rfl); simp only [Act.put, List.setIfInBounds_toArray, List.set_cons_zero, List.set_cons_succ]))
        refine mono_nil ?_
        rintro W5 ⟨hS, hF, hSh⟩ ⟨hbs, I, hI1, -⟩
        obtain ⟨i1, i2, i3, uu, ⟨ux, uy, hue⟩, hRr, hRl⟩ := hI1 4 _ (upd_self _ _ _)
        obtain rfl : uu = .slice bv (cn * rn) cv := by simp at hue; exact hue.2.2.symm
        clear hue hI1 hGm hsp
        have hput := hS.put (g := g) (cap := ccap) (by simp only; rw [hT.len]) (by simp only; rw [hT.len]; omega) hkc ⟨cn, rn, g2, g3⟩ p1 p2 HP3.out (.slice bv (cn * rn) cv) (hRr.down (Nat.le_trans hNW i1))
        have hkb : k * 7 + 7 ≤ cs.length * 7 := by omega
        have hrow := hS.row
        simp only at hrow
        rw [hT.len] at hrow hkb
        obtain ⟨⟨a4, c4⟩, f4⟩ := hrow.spot (i := k * 7 + 4) (by omega)
        have hrow2 := hrow.set (k * 7 + 4) (by omega) (.int .i64 cn)
        obtain ⟨⟨a5, c5⟩, f5⟩ := hrow2.spot (i := k * 7 + 5) (by omega)
        have hrow3 := hrow2.set (k * 7 + 5) (by omega) (.int .i64 rn)
        obtain ⟨⟨a6, c6⟩, f6⟩ := hrow3.spot (i := k * 7 + 6) (by omega)
        obtain ⟨cur, hbg⟩ := hrow.blk
        have hF3 := ((hF.other hbg (by decide) (by decide) (k * 7 + 4) (.int .i64 cn)).other (hbg.set _ _) (by decide) (by decide) (k * 7 + 5) (.int .i64 rn)).other ((hbg.set _ _).set _ _) (by decide) (by decide) (k * 7 + 6) (.slice bv (cn * rn) cv)
        clear hrow hrow2 hrow3 hbg
        go_wp2
        exact ⟨⟨k + 1, by omega, by go_num, _, hTs.out _, hput, hF3⟩, by simp [intOf]; omega⟩
      · obtain rfl : k = x.cs.length := by omega
        have tl : decide (x.cs.length < x.cs.length) = false := by simp
        obtain ⟨x1, hx1⟩ : ∃ x1 : ImgArg, x1 = ⟨x.w, x.h, .slice cb x.cs.length ccap, .slice qb x.qs.length qcap, .slice none 0 0, cs, x.qs, []⟩ := ⟨_, rfl⟩
        have few : FewOk x1 := by
          rw [hx1]
          refine ⟨by simp only; rw [hT.len]; exact hc20, hq20, by simp, fun c hc => ?_, by simp⟩
          obtain ⟨i, hi, rfl⟩ := List.getElem_of_mem hc
          simp only at hi
          have hix : i < x.cs.length := by rw [← hT.len]; exact hi
          have hCB := hT.lo i hix hix
          rw [comp_getD hi] at hCB
          have hig : i < (frG x).length := by omega
          obtain ⟨p1, p2, p3⟩ := GOK.out i hig
          rw [hCB.bs]
          unfold zeroBs
          rw [List.length_replicate]
          have e1 : (frG x).getD i noGrid = (frG x)[i]'hig := by simp [List.getD_eq_getElem?_getD, hig]
          rw [e1]
          generalize (frG x)[i]'hig = gr at *
          have : ((gr.c.toNat * gr.r.toNat : Nat) : Int) ≤ 16384 := by rw [Int.natCast_mul, Int.toNat_of_nonneg (by omega), Int.toNat_of_nonneg (by omega)]; exact p3
          omega
        have hB : BlankOf x x1 := by
          rw [hx1] at few ⊢
          exact ⟨rfl, rfl, rfl, rfl, hT, few⟩
        have himg : ∀ W, BkS N M x1 w W → IsImg W x1.val x1 := fun W h' => h'.img (by have := few.c20; omega) (by have := few.q20; omega) (by rw [hx1]; exact h.ww) (by rw [hx1]; exact h.wh) (by rw [hx1]) (by rw [hx1])
        rw [← hx1] at hS
        have hri := img_right x1 wr (himg wr hS) few
        have hv1 : x1.val = .agg #[.int .i64 x.w, .int .i64 x.h, .slice cb x.cs.length ccap, .slice qb x.qs.length qcap, .slice none 0 0] := by rw [hx1]; rfl
        have bM : Blk wr M #[.int .i64 x.w, .int .i64 x.h, .slice cb x.cs.length ccap, .slice qb x.qs.length qcap, .slice none 0 0] 26 := by have := hS.bM; rw [hx1] at this; exact this
        rw [hv1] at hri
        have HB := Lib.hid hB
        have HI := Lib.hid (fun W ds (h' : BkS N M x1 w W) => BkS.imgRow h' (by have := HB.out.few.c20; omega) (by have := HB.out.few.q20; omega) (by rw [HB.out.w]; exact h.ww) (by rw [HB.out.h]; exact h.wh) (by rw [hx1]) HB.out.ts ds)
        have HV := Lib.hid hv1
        clear hB himg hv1 hx1 few hT
        obtain ⟨E, hE⟩ : ∃ E, imgE x1 = E := ⟨_, rfl⟩
        rw [hE] at hri
        have HE := Lib.hid hE
        have H0 := Lib.hid h0
        clear hE h0
        by_cases he : E = 0
        · subst he
          go_wp2_with (first | (refine wpList_load_row rfl 26 _ rfl M rfl 26 _ _ _ bM Try.underlying26 rfl (by kernel_rfl) ?_) | (go_at_call 20; refine hri.mono ?_; rintro r w5 ⟨rfl, hb5⟩; replace bM := bM.below hb5 bM.lt; replace hS := hS.below hb5) | (refine wpList_store_row rfl 26 _ _ rfl N _ rfl rfl 26 _ hS.bN (by kernel_rfl) rfl (by simp [Value.oneCell']) ?_))
          refine bodyPost_ret (results_row_tmp rfl _ _ N 26 _ _ rfl (hS.bN.row _) Try.underlying26 rfl (by kernel_rfl)) rfl ?_
          exact ⟨_, _, rfl, Below.setRow hS.hB (Nat.le_refl _) _, fun h => absurd H0.out h, fun _ => ⟨x1, HB.out, HE.out.symm, fun h => absurd rfl h, fun _ => ⟨HV.out.symm, HI.out _ _ hS⟩⟩⟩
        · have te : (E != 0) = true := by simpa using he
          have HN0 := Lib.hid he
          clear he
          go_wp2_with (first | (refine wpList_load_row rfl 26 _ rfl M rfl 26 _ _ _ bM Try.underlying26 rfl (by kernel_rfl) ?_) | (go_at_call 20; refine hri.mono ?_; rintro r w5 ⟨rfl, hb5⟩; replace bM := bM.below hb5 bM.lt; replace hS := hS.below hb5) | (refine wpList_store_row rfl 26 _ _ rfl N _ rfl rfl 26 _ hS.bN (by kernel_rfl) rfl (by simp [Value.oneCell']) ?_))
          refine bodyPost_ret (results_row_tmp rfl _ _ N 26 _ _ rfl (hS.bN.row _) Try.underlying26 rfl (by kernel_rfl)) rfl ?_
          exact ⟨_, _, rfl, Below.setRow hS.hB (Nat.le_refl _) _, fun h => absurd H0.out h, fun _ => ⟨x1, HB.out, HE.out.symm, fun _ => rfl, fun h => absurd h HN0.out⟩⟩
  · have te : (frE x != 0) = true := by simpa using h0
    obtain ⟨E, hE⟩ : ∃ E, frE x = E := ⟨_, rfl⟩
    rw [hE] at hfr te h0
    have HE := Lib.hid hE
    clear hE
    have bM := hS.bM
    simp only at bM
    have H0 := Lib.hid h0
    clear h0
    go_wp2_with (first | (refine wpList_load_row rfl 26 _ rfl M rfl 26 _ _ _ bM Try.underlying26 rfl (by kernel_rfl) ?_) | (go_at_call 48; refine hfr.mono ?_; rintro r w1 ⟨f, rfl, hb1, hf1, -⟩; obtain rfl := hf1 H0.out; have bN' := hS.bN.below hb1 hS.bN.lt; have hB' := hS.hB.trans (hb1.mono (Nat.le_of_lt hS.bN.lt))) | (refine wpList_store_row rfl 26 _ _ rfl N _ rfl rfl 26 _ bN' (by kernel_rfl) rfl (by simp [Value.oneCell']) ?_))
    refine bodyPost_ret (results_row_tmp rfl _ _ N 26 _ _ rfl (bN'.row _) Try.underlying26 rfl (by kernel_rfl)) rfl ?_
    exact ⟨_, _, rfl, Below.setRow hB' (Nat.le_refl _) _, fun _ => ⟨HE.out.symm, rfl⟩, fun h => absurd (HE.out.symm.trans h) H0.out⟩
end Go.Proofs.Ytgmhhocpdfdplaa
