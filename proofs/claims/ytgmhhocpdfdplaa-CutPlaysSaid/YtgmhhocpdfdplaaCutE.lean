/- Package cut: each, whatever is done to the planes. -/
import Derived.Test.YtgmhhocpdfdplaaCutC
import Derived.Test.YtgmhhocpdfdplaaOwnL
import Derived.Test.YtgmhhocpdfdplaaMonoL
namespace Go.Proofs.Ytgmhhocpdfdplaa
open Go.RowKit
set_option maxRecDepth 100000
set_option maxHeartbeats 8000000
structure PlaneV where
  c : Int
  r : Int
  l : List (List Int)
structure PlOk (p : PlaneV) : Prop where
  wc : (Lit.int .i64 p.c).wf = true
  wr : (Lit.int .i64 p.r).wf = true
  h64 : Right64 p.l
  wb : ∀ b ∈ p.l, ∀ y ∈ b, (Lit.int .i16 y).wf = true
  few : p.l.length ≤ 20000
/-- The image with other planes. -/
def putAll (x : ImgArg) (G : Nat → PlaneV) : ImgArg := { x with cs := (List.range x.cs.length).map fun i => setP (x.cs.getD i noComp) (G i).c (G i).r (.slice none 0 0) (G i).l }
/-- The first k planes are put. -/
structure PutTo (c0 : List CompArg) (G : Nat → PlaneV) (k : Nat) (cs : List CompArg) : Prop where
  len : cs.length = c0.length
  lo : ∀ i, i < k → i < c0.length → cd (cs.getD i noComp) = cd (setP (c0.getD i noComp) (G i).c (G i).r (.slice none 0 0) (G i).l)
  hi : ∀ i, k ≤ i → cd (cs.getD i noComp) = cd (c0.getD i noComp)
theorem PutTo.zero {c0 cs : List CompArg} (G : Nat → PlaneV) (h : cs.map cd = c0.map cd) : PutTo c0 G 0 cs := by
  have hl : cs.length = c0.length := by simpa using congrArg List.length h
  refine ⟨hl, fun i hi => absurd hi (by omega), fun i _ => ?_⟩
  have hi := congrArg (fun l => l[i]?) h
  simp only [List.getElem?_map] at hi
  simp only [List.getD_eq_getElem?_getD]
  cases hx : cs[i]? with
  | none => cases hy : c0[i]? with
    | none => rfl
    | some b => rw [hx, hy] at hi; cases hi
  | some a => cases hy : c0[i]? with
    | none => rw [hx, hy] at hi; cases hi
    | some b =>
      rw [hx, hy] at hi
      simpa using hi
theorem PutTo.step {c0 : List CompArg} {G : Nat → PlaneV} {k : Nat} {cs : List CompArg} (h : PutTo c0 G k cs) (hk : k < cs.length) (u : Value) :
    PutTo c0 G (k + 1) (cs.set k (setP (cs[k]'hk) (G k).c (G k).r u (G k).l)) := by
  have e0 : cd (cs[k]'hk) = cd (c0.getD k noComp) := by rw [← h.hi k (Nat.le_refl _)]; simp [List.getD_eq_getElem?_getD, hk]
  refine ⟨by rw [List.length_set, h.len], fun i hi hic => ?_, fun i hi => ?_⟩
  · by_cases hik : i = k
    · subst hik
      rw [getD_set_self _ _ _ hk]
      exact congrArg (fun t => (t.1, (G i).c, (G i).r, (G i).l)) e0
    · rw [getD_set_other _ _ _ _ (fun e => hik e.symm)]
      exact h.lo i (by omega) hic
  · rw [getD_set_other _ _ _ _ (by omega)]
    exact h.hi i (by omega)
theorem PutTo.all {x : ImgArg} {G : Nat → PlaneV} {cs : List CompArg} (h : PutTo x.cs G x.cs.length cs) : cs.map cd = (putAll x G).cs.map cd := by
  refine List.ext_getElem? fun i => ?_
  rw [List.getElem?_map, List.getElem?_map]
  unfold putAll
  by_cases hi : i < x.cs.length
  · have hi' : i < cs.length := by rw [h.len]; exact hi
    have := h.lo i hi hi
    rw [List.getD_eq_getElem?_getD, List.getElem?_eq_getElem hi', Option.getD_some] at this
    simp only [List.getElem?_map, List.getElem?_range hi, List.getElem?_eq_getElem hi', Option.map_some]
    rw [this]
  · rw [List.getElem?_eq_none (by rw [h.len]; omega), List.getElem?_eq_none (by simp; omega)]
def shDo (c r : Int) (n : Nat) (v : Value) : Prop := ∃ b cap, v = .tuple #[.agg #[.int .i64 c, .int .i64 r, .slice b n cap], .int .i64 0]
def fDo (l : List (List Int)) (v : Value) : Fact := fun lo hi w => ∃ u, (∃ x y e, v = .tuple #[.agg #[x, y, u], e]) ∧ Row w lo 57 64 u l.length (bcells l) ∧ ∀ g, u.ownBlock = some g → g < hi
theorem fDo_mono (l : List (List Int)) (v : Value) : (fDo l v).Mono := by
  intro lo hi w w' h hs hB
  obtain ⟨u, h1, h2, h3⟩ := h
  exact ⟨u, h1, h2.grow hB, h3⟩
theorem PutTo.few {x : ImgArg} {G : Nat → PlaneV} {k : Nat} {cs : List CompArg} (h : PutTo x.cs G k cs) (hf : FewOk x) (hG : ∀ i, i < x.cs.length → PlOk (G i)) (cu qu tu : Value) (w h' : Int) : FewOk ⟨w, h', cu, qu, tu, cs, x.qs, x.ts⟩ := by
  refine ⟨by show cs.length ≤ 20; rw [h.len]; exact hf.c20, hf.q20, hf.t100, fun c hc => ?_, hf.t140⟩
  obtain ⟨i, hi, rfl⟩ := List.getElem_of_mem hc
  have hi2 : i < cs.length := hi
  have hi' : i < x.cs.length := by rw [← h.len]; exact hi2
  have hgd : cs.getD i noComp = cs[i]'hi2 := comp_getD hi2
  by_cases hik : i < k
  · have := h.lo i hik hi'
    rw [hgd] at this
    have e : (cs[i]'hi2).bs = (G i).l := congrArg (fun t => t.2.2.2) this
    rw [e]
    exact (hG i hi').few
  · have := h.hi i (by omega)
    rw [hgd, comp_getD hi'] at this
    have e : (cs[i]'hi2).bs = (x.cs[i]'hi').bs := congrArg (fun t => t.2.2.2) this
    rw [e]
    exact hf.b300 _ (List.getElem_mem hi')
/-- The boxes: the image, the rectangle, the result, the copy. -/
structure EI (N P M0 : Nat) (x y : ImgArg) (a b h d : Int) (w V0 V : World) : Prop where
  l : LR N x a b h d 70 w V
  bQ : Blk V (N + 2) #[.int .i64 0, .int .i64 0, .slice none 0 0, .slice none 0 0, .slice none 0 0] 26
  bP : Blk V P #[.int .i64 y.w, .int .i64 y.h, y.cu, y.qu, y.tu] 26
  own : OwnL M0 y V0 V
theorem EI.below {N P M0 : Nat} {x y : ImgArg} {a b h d : Int} {w V0 V V' : World} (q : EI N P M0 x y a b h d w V0 V) (hb : Below V.heap.size V V') : EI N P M0 x y a b h d w V0 V' :=
  ⟨q.l.below hb, q.bQ.below hb q.bQ.lt, q.bP.below hb q.bP.lt, q.own.below hb⟩
theorem cut_each (x : ImgArg) (hf : FewOk x) (hR : RightI x) (a b h d : Int) (ha : 0 ≤ a ∧ a ≤ 20000) (hb : 0 ≤ b ∧ b ≤ 20000) (hh : 0 ≤ h ∧ h ≤ 20000) (hd : 0 ≤ d ∧ d ≤ 20000) (gf : Nat) (heg : ∀ args w, (callFunc gf args).run Try.prog w = .ok (.enter gf args) w)
    (G : Nat → PlaneV) (hG : ∀ i, i < x.cs.length → PlOk (G i))
    (hdo : ∀ i (hi : i < x.cs.length) (u : Value) (W : World), Ar W 64 u (x.cs[i]'hi).bs.length (bcells (x.cs[i]'hi).bs) → Calls Try.prog gf #[.agg #[.int .i64 (x.cs[i]'hi).c, .int .i64 (x.cs[i]'hi).r, u], .agg #[.int .i64 (a * pV x i), .int .i64 (b * pH x i), .int .i64 (h * pV x i), .int .i64 (d * pH x i)]] W
      fun e w' => ∃ v, e = .returned (.tuple #[.agg #[.int .i64 (G i).c, .int .i64 (G i).r, v], .int .i64 0]) ∧ Row w' W.heap.size 57 64 v (G i).l.length (bcells (G i).l) ∧ Below W.heap.size W w')
    (w : World) (hI : IsImg w x.val x) :
    Calls Try.prog 87 #[x.val, .agg #[.int .i64 a, .int .i64 b, .int .i64 h, .int .i64 d], .func (.func gf) #[] #[]] w fun r w' => ∃ x1, r = .returned x1.val ∧ SameD (putAll x G) x1 ∧ FewOk x1 ∧ OwnL w.heap.size x1 w w' := by
  have hww := Lib.hid hI.ww; have hwh := Lib.hid hI.wh; have HI := Lib.hid hI
  have hc20 := hf.c20
  obtain ⟨cb, ccap, hcu⟩ := hI.cs.len
  have HCU := Lib.hid hcu
  have hL := LR.begin hI a b h d 70
  obtain ⟨N, hN⟩ : ∃ N, N = w.heap.size := ⟨_, rfl⟩
  rw [← hN] at hL
  have HN := Lib.hid hN
  have hcp := fun W h => img_copy x hf W h
  have hbl := fun i hi W hI => cut_blocks x hc20 hR i hi a b h d ha hb hh hd W hI
  unfold ImgArg.val at hcp hbl ⊢
  have HDO := Lib.hid hdo
  have HG := Lib.hid hG
  have HBL := Lib.hid hbl
  clear hN hI hcu hdo hG hbl
  go_enter Try.func87, Try.ntmps87
  go_upto_region 1 with fail
  refine wp_world (fun V => LR N x a b h d 70 w V ∧ Blk V (N + 2) #[.int .i64 0, .int .i64 0, .slice none 0 0, .slice none 0 0, .slice none 0 0] 26) ⟨hL.below ((Below.refl _ _).alloc (Nat.le_refl _) _), Blk.new' _ _ _ (by rw [HN.out]; simp)⟩ ?_
  rw [← HN.out]
  clear hL
  rintro V0 ⟨hL, bQ⟩
  have hNN := hL.l.hM
  go_upto_region 2 with (first
    | (refine wpList_load_row rfl 26 _ rfl N rfl 26 _ _ _ hL.l.bN Try.underlying26 rfl (by kernel_rfl) ?_)
    | (go_at_call 31; refine (hcp _ hL.l.img).mono ?_; rintro r w1 ⟨⟨yw, yh, ycu, yqu, ytu, ycs, yqs, yts⟩, rfl, hSD, hO⟩; obtain ⟨yb, ycap, rfl⟩ : ∃ b c, ycu = .slice b ycs.length c := hO.c.row.len; obtain ⟨qb, qcap, rfl⟩ : ∃ b c, yqu = .slice b yqs.length c := hO.q.len; obtain ⟨tb, tcap, rfl⟩ : ∃ b c, ytu = .slice b yts.length c := hO.t.len; obtain ⟨P, hP⟩ : ∃ P, P = w1.heap.size := ⟨_, rfl⟩; have HP := Lib.hid hP; clear hP)
    | (refine wpList_store_row rfl 26 _ _ rfl P _ (by rw [HP.out]; rfl) rfl 26 _ (Blk.new' _ _ _ HP.out) (by kernel_rfl) rfl (by simp [Value.oneCell']) ?_; simp only [Act.put]))
  have hb1 := hO.c.hB
  have hN1 := hO.c.hW
  have hbe : Below w1.heap.size w1 ((w1.alloc (.cells #[.int .i64 0, .int .i64 0, .slice none 0 0, .slice none 0 0, .slice none 0 0] 26)).setRow P #[.int .i64 yw, .int .i64 yh, .slice yb ycs.length ycap, .slice qb yqs.length qcap, .slice tb yts.length tcap]) := Below.setRow ((Below.refl _ _).alloc (Nat.le_refl _) _) (Nat.le_of_eq HP.out.symm) _
  try rw [← HP.out]
  refine wp_world (EI N P V0.heap.size x ⟨yw, yh, .slice yb ycs.length ycap, .slice qb yqs.length qcap, .slice tb yts.length tcap, ycs, yqs, yts⟩ a b h d w V0) ⟨(hL.below hb1).below hbe, (bQ.below hb1 bQ.lt).below hbe (Nat.lt_of_lt_of_le bQ.lt hN1), (Blk.new' _ _ _ HP.out).row _, hO.ownL.below hbe⟩ ?_
  have hM0 : N + 2 < V0.heap.size := bQ.lt
  have HM0 := Lib.hid hM0
  clear hbe hb1 hO hL bQ hcp HP hN1 hM0
  intro V1 hE
  generalize V0.heap.size = M0 at *
  have hT0 : PutTo x.cs G 0 ycs := PutTo.zero G hSD.cs
  have hyl := hSD.len
  simp only at hyl
  have HW := Lib.hid hSD.w; have HH := Lib.hid hSD.h; have HQS := Lib.hid hSD.qs; have HTS := Lib.hid hSD.ts
  obtain ⟨m, hm⟩ : ∃ m, ycs.length = m := ⟨_, rfl⟩
  rw [hm] at hE hyl ⊢
  have HYL := Lib.hid hyl
  clear hm hSD hyl
  have q2 : V1.cell? ⟨N, 2, none⟩ = some (.slice cb x.cs.length ccap) := by rw [← HCU.out]; exact hE.l.l.bN.cell 2
  go_wp2
  clear q2
  go_loopw [15] (fun iv wr => ∃ k : Nat, k ≤ x.cs.length ∧ iv = .int .i64 k ∧ ∃ cs, PutTo x.cs G k cs ∧ EI N P M0 x ⟨yw, yh, .slice yb m ycap, .slice qb yqs.length qcap, .slice tb yts.length tcap, cs, yqs, yts⟩ a b h d w V0 wr) (fun iv _ => x.cs.length - (intOf iv).toNat)
  case atStart => exact ⟨0, Nat.zero_le _, rfl, ycs, hT0, hE⟩
  case round =>
    clear hE hT0
    obtain ⟨k, hk, rfl, cs, hT, hE⟩ := hrel
    by_cases hlt : k < x.cs.length
    · have tl : decide (k < x.cs.length) = true := by simpa using hlt
      have hcs : IsComps wr (.slice cb x.cs.length ccap) x.cs := by have := hE.l.l.img.cs; rwa [HCU.out] at this
      obtain ⟨aa, rfl, c0, c1, c2, c3, c4, c5, c6⟩ := hcs.at hlt
      have hAr := (hcs.ok _ (List.getElem_mem hlt)).ar
      have hdo := HDO.out k hlt
      have hblk := HBL.out k hlt
      have j0 : (0 : Int) ≤ (k : Int) := by omega
      have j1 : (k : Int) < (x.cs.length : Int) := by omega
      generalize (x.cs[k]'hlt).id = x0 at *
      generalize (x.cs[k]'hlt).h = x1 at *
      generalize (x.cs[k]'hlt).v = x2 at *
      generalize (x.cs[k]'hlt).q = x3 at *
      generalize (x.cs[k]'hlt).c = x4 at *
      generalize (x.cs[k]'hlt).r = x5 at *
      generalize (x.cs[k]'hlt).bs = bs at *
      generalize (x.cs[k]'hlt).u = u at *
      obtain ⟨ub, uc, rfl, -, -⟩ := hAr.len
      obtain ⟨C, hC⟩ : ∃ C, C = wr.heap.size := ⟨_, rfl⟩
      have HC := Lib.hid hC
      clear hcs hC
      go_upto_region 5 with fail
      have hbe : Below wr.heap.size wr (wr.alloc (.cells #[.int .i64 x0, .int .i64 x1, .int .i64 x2, .int .i64 x3, .int .i64 x4, .int .i64 x5, .slice ub bs.length uc] 63)) := (Below.refl _ _).alloc (Nat.le_refl _) _
      rw [← HC.out]
      refine wp_world (fun V => Blk V C #[.int .i64 x0, .int .i64 x1, .int .i64 x2, .int .i64 x3, .int .i64 x4, .int .i64 x5, .slice ub bs.length uc] 63 ∧ Ar V 64 (.slice ub bs.length uc) bs.length (bcells bs) ∧ EI N P M0 x ⟨yw, yh, .slice yb m ycap, .slice qb yqs.length qcap, .slice tb yts.length tcap, cs, yqs, yts⟩ a b h d w V0 V) ⟨Blk.new' _ _ _ HC.out, hAr.below hbe, hE.below hbe⟩ ?_
      clear hbe hE hAr c0 c1 c2 c3 c4 c5 c6 HC
      clear wr
      rintro V2 ⟨bC, hA, hE⟩
      have hkc : k < cs.length := by rw [hT.len]; exact hlt
      have hcm : cs.length = m := by rw [hT.len]; exact HYL.out.symm
      obtain ⟨g, cap', he, hlo, hgs, -⟩ := hE.own.row.cells (by simp only; omega)
      simp only [Value.slice.injEq] at he
      obtain ⟨rfl, -, -⟩ := he
      have hMW := hE.own.hW
      have jm : (k : Int) < (m : Int) := by omega
      have hPO := HG.out k hlt
      have hTs := Lib.hid (fun v => hT.step hkc v)
      have hGm : ∀ V V', (fun V => Blk V C #[.int .i64 x0, .int .i64 x1, .int .i64 x2, .int .i64 x3, .int .i64 x4, .int .i64 x5, .slice ub bs.length uc] 63 ∧ Ar V 64 (.slice ub bs.length uc) bs.length (bcells bs) ∧ EI N P M0 x ⟨yw, yh, .slice (some ⟨g, 0, none⟩) m ycap, .slice qb yqs.length qcap, .slice tb yts.length tcap, cs, yqs, yts⟩ a b h d w V0 V) V → Below V.heap.size V V' → (fun V => Blk V C #[.int .i64 x0, .int .i64 x1, .int .i64 x2, .int .i64 x3, .int .i64 x4, .int .i64 x5, .slice ub bs.length uc] 63 ∧ Ar V 64 (.slice ub bs.length uc) bs.length (bcells bs) ∧ EI N P M0 x ⟨yw, yh, .slice (some ⟨g, 0, none⟩) m ycap, .slice qb yqs.length qcap, .slice tb yts.length tcap, cs, yqs, yts⟩ a b h d w V0 V) V' := fun V V' q hb => ⟨q.1.below hb q.1.lt, q.2.1.below hb, q.2.2.below hb⟩
      generalize hgk : G k = gk at *
      obtain ⟨gc, gr, gl⟩ := gk
      simp only at hdo hTs
      refine wp_region_late [13] [0, 1, 2, 3, 4, 5, 6, 7, 8, 9, 10, 11, 12, 13, 14, 15] [16] (fun V => Blk V C #[.int .i64 x0, .int .i64 x1, .int .i64 x2, .int .i64 x3, .int .i64 x4, .int .i64 x5, .slice ub bs.length uc] 63 ∧ Ar V 64 (.slice ub bs.length uc) bs.length (bcells bs) ∧ EI N P M0 x ⟨yw, yh, .slice (some ⟨g, 0, none⟩) m ycap, .slice qb yqs.length qcap, .slice tb yts.length tcap, cs, yqs, yts⟩ a b h d w V0 V)
        (fun | 9 => some (sFix (.agg #[.int .i64 (a * pV x k), .int .i64 (b * pH x k), .int .i64 (h * pV x k), .int .i64 (d * pH x k)])) | 10 => some (sRel (shDo gc gr gl.length) (fDo gl)) | _ => none) (fun _ => []) (by kernel_rfl) (by kernel_rfl) (by intro j hj; simp at hj; subst hj; rfl) (hGm _ _ ⟨bC, hA, hE⟩ (Below.refl _ _).drew) ?_ ?_
      · intro i s hs
        match i with
        | 9 => cases hs; exact fun _ _ => sFix_mono _ _ _
        | 10 => cases hs; exact fun _ _ => fDo_mono _ _
      clear bC hA hE
      simp only [pick, List.getD_cons_succ, List.getD_cons_zero, List.zip_cons_cons, List.zip_nil_right]
      (first | (refine mono_skip (by rfl) ?_; simp only [Act.put, List.setIfInBounds_toArray, List.set_cons_zero, List.set_cons_succ]) | (refine mono_pure (v := ?_) (by rfl) rfl ?_ ?_; rotate_left; (intro wS hS; go_simp; try with_reducible rfl); simp only [Act.put, List.setIfInBounds_toArray, List.set_cons_zero, List.set_cons_succ]))
      refine mono_pure (v := .slice (some ⟨g, 0, none⟩) m ycap) (by rfl) rfl (fun w1 hG => by have cy : w1.cell? ⟨P, 2, none⟩ = some (.slice (some ⟨g, 0, none⟩) m ycap) := hG.2.2.bP.cell 2; go_simp; try with_reducible rfl) ?_
      simp only [Act.put, List.setIfInBounds_toArray, List.set_cons_zero, List.set_cons_succ]
      iterate 3 (first | (refine mono_skip (by rfl) ?_; simp only [Act.put, List.setIfInBounds_toArray, List.set_cons_zero, List.set_cons_succ]) | (refine mono_pure (v := ?_) (by rfl) rfl ?_ ?_; rotate_left; (intro wS hS; go_simp; try with_reducible rfl); simp only [Act.put, List.setIfInBounds_toArray, List.set_cons_zero, List.set_cons_succ]))
      refine mono_pure (v := .agg #[.int .i64 x4, .int .i64 x5, .slice ub bs.length uc]) (by rfl) rfl (fun w1 hG => by have c4 := hG.1.cell 4; have c5 := hG.1.cell 5; have c6 := hG.1.cell 6; go_simp; try with_reducible rfl) ?_
      simp only [Act.put, List.setIfInBounds_toArray, List.set_cons_zero, List.set_cons_succ]
      refine mono_pure (by rfl) rfl (fun w1 hG => run_exec_load_row 26 _ rfl N rfl 26 _ _ hG.2.2.l.l.bN Try.underlying26 rfl (by kernel_rfl)) ?_
      simp only [Act.put, List.setIfInBounds_toArray, List.set_cons_zero, List.set_cons_succ]
      refine mono_pure (by rfl) rfl (fun w1 hG => run_exec_load_row 70 _ rfl (N + 1) rfl 70 _ _ hG.2.2.l.bR Try.underlying70 rfl (by kernel_rfl)) ?_
      simp only [Act.put, List.setIfInBounds_toArray, List.set_cons_zero, List.set_cons_succ]
      (first | (refine mono_skip (by rfl) ?_; simp only [Act.put, List.setIfInBounds_toArray, List.set_cons_zero, List.set_cons_succ]) | (refine mono_pure (v := ?_) (by rfl) rfl ?_ ?_; rotate_left; (intro wS hS; go_simp; try with_reducible rfl); simp only [Act.put, List.setIfInBounds_toArray, List.set_cons_zero, List.set_cons_succ]))
      refine mono_fix (.agg #[.int .i64 (a * pV x k), .int .i64 (b * pH x k), .int .i64 (h * pV x k), .int .i64 (d * pH x k)]) (by rfl) rfl hGm (by intro w hG; go_simp; first | done | exact ⟨rfl, rfl⟩) (fun w1 hG hH => hblk w1 hG.2.2.l.l.img) ?_
      simp only [Act.put, List.setIfInBounds_toArray, List.set_cons_zero, List.set_cons_succ]
      refine mono_rel (shDo gc gr gl.length) (fDo gl) (by rfl) rfl hGm (by intro w hG; go_simp; first | done | exact heg _ _ | exact ⟨rfl, rfl⟩) ⟨_, none, 0, rfl⟩ (fun w1 hG hH => ?_) (fun v3 hv3 => ?_)
      · refine (hdo _ w1 hG.2.1).mono ?_
        rintro e w2 ⟨v, rfl, hRw, hb⟩
        obtain ⟨bv, cv, rfl⟩ := hRw.len
        exact ⟨_, rfl, ⟨bv, cv, rfl⟩, hb, _, ⟨_, _, _, rfl⟩, hRw, fun g e => (hRw.lt g e).2⟩
      obtain ⟨bv, cv, rfl⟩ := hv3
      simp only [Act.put, List.setIfInBounds_toArray, List.set_cons_zero, List.set_cons_succ]
      iterate 5 (first | (refine mono_skip (by rfl) ?_; simp only [Act.put, List.setIfInBounds_toArray, List.set_cons_zero, List.set_cons_succ]) | (refine mono_pure (v := ?_) (by rfl) rfl ?_ ?_; rotate_left; (intro wS hS; go_simp; try with_reducible rfl); simp only [Act.put, List.setIfInBounds_toArray, List.set_cons_zero, List.set_cons_succ]))
      refine mono_nil ?_
      rintro V5 ⟨bC, hA, hE⟩ ⟨hbs, I, hI1, -⟩
      obtain ⟨i1, i2, i3, uu, ⟨ux, uy, ue, hue⟩, hRr, hRl⟩ := hI1 10 _ (upd_self _ _ _)
      obtain rfl : uu = .slice bv gl.length cv := by simp at hue; exact hue.1.2.2.symm
      clear hue hI1 hGm hdo hblk
      have hput := hE.own.putP (g := g) (cap := ycap) (by simp only; rw [hcm]) hkc gc gr gl (.slice bv gl.length cv) hPO.wc hPO.wr hPO.h64 hPO.wb (hRr.down (Nat.le_trans hMW i1))
      have hCB : Below w.heap.size w V5 := hE.l.hB
      have hg0 : w.heap.size ≤ g := by have := HM0.out; omega
      have hap : ∀ {b' : Nat} {cs' : Array Value} {t : TypeId}, Blk V5 b' cs' t → t ≠ 63 → b' ≠ g := fun hb ht => hE.own.apart (g := g) (cap := ycap) (by simp only; rw [hcm]) hb ht
      have hE2 : EI N P M0 x ⟨yw, yh, .slice (some ⟨g, 0, none⟩) m ycap, .slice qb yqs.length qcap, .slice tb yts.length tcap, cs.set k (setP (cs[k]'hkc) gc gr (.slice bv gl.length cv) gl), yqs, yts⟩ a b h d w V0 (putW V5 g k gc gr (.slice bv gl.length cv)) := by
        refine ⟨⟨⟨hE.l.l.bN.putW (hap hE.l.l.bN (by decide)) _ _ _, ?_, hE.l.l.hM, ((hCB.setCell hg0 _).setCell hg0 _).setCell hg0 _⟩, hE.l.bR.putW (hap hE.l.bR (by decide)) _ _ _⟩, hE.bQ.putW (hap hE.bQ (by decide)) _ _ _, hE.bP.putW (hap hE.bP (by decide)) _ _ _, hput⟩
        exact HI.out.below (((hCB.setCell hg0 _).setCell hg0 _).setCell hg0 _)
      have HE2 := Lib.hid hE2
      have hkb : k * 7 + 7 ≤ cs.length * 7 := by omega
      have hrow := hE.own.row
      simp only at hrow
      rw [hcm] at hrow hkb
      obtain ⟨⟨a4, c4⟩, f4⟩ := hrow.spot (i := k * 7 + 4) (by omega)
      have hrow2 := hrow.set (k * 7 + 4) (by omega) (.int .i64 gc)
      obtain ⟨⟨a5, c5⟩, f5⟩ := hrow2.spot (i := k * 7 + 5) (by omega)
      have hrow3 := hrow2.set (k * 7 + 5) (by omega) (.int .i64 gr)
      obtain ⟨⟨a6, c6⟩, f6⟩ := hrow3.spot (i := k * 7 + 6) (by omega)
      clear hrow hrow2 hrow3 hput hap hE2 hE bC hA
      go_wp2
      refine onlyN_intro ?_
      go_wp2
      go_roundw
      case rel => exact ⟨k + 1, by omega, by go_num, _, hTs.out _, HE2.out⟩
      case measure => simp [intOf]; omega
    · obtain rfl : k = x.cs.length := by omega
      have tl : decide (x.cs.length < x.cs.length) = false := by simp
      have hall := hT.all
      have hfew : FewOk ⟨yw, yh, .slice yb m ycap, .slice qb yqs.length qcap, .slice tb yts.length tcap, cs, yqs, yts⟩ := by
        have := hT.few hf HG.out (.slice yb m ycap) (.slice qb yqs.length qcap) (.slice tb yts.length tcap) yw yh
        rw [← HQS.out, ← HTS.out] at this
        exact this
      have hnb := Nat.lt_trans (Nat.lt_succ_self (N + 1)) HM0.out
      have HALL := Lib.hid hall
      have HFEW := Lib.hid hfew
      clear hall hfew hT
      go_wp2_with (first | (refine wpList_load_row rfl 26 _ rfl P rfl 26 _ _ _ hE.bP Try.underlying26 rfl (by kernel_rfl) ?_) | (refine wpList_store_row rfl 26 _ _ rfl (N + 2) _ rfl rfl 26 _ hE.bQ (by kernel_rfl) rfl (by simp [Value.oneCell']) ?_))
      simp only [Act.put]
      refine bodyPost_ret (results_cell_row rfl _ _ (N + 2) 26 _ (0, 0) _ rfl (hE.bQ.row _) Try.underlying26 rfl (by kernel_rfl)) rfl ?_
      refine ⟨⟨yw, yh, .slice yb m ycap, .slice qb yqs.length qcap, .slice tb yts.length tcap, cs, yqs, yts⟩, rfl, ⟨HW.out, HH.out, HALL.out, HQS.out, HTS.out⟩, HFEW.out, ?_⟩
      have hfin := hE.own.setRow (N + 2) HM0.out #[.int .i64 yw, .int .i64 yh, .slice yb m ycap, .slice qb yqs.length qcap, .slice tb yts.length tcap] w (by omega) hE.l.hB
      exact hfin
end Go.Proofs.Ytgmhhocpdfdplaa
