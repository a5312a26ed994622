/- Texts on one foundation, joined: CutQ, CutR, CutV, CutW, CutX. -/
import Derived.Test.YtgmhhocpdfdplaaCutJ
import Derived.Test.YtgmhhocpdfdplaaCutT
import Derived.Test.YtgmhhocpdfdplaaCutH
import Derived.Test.YtgmhhocpdfdplaaBlkA
/- The blocks that a rectangle touches, in plain words. -/
namespace Go.Proofs.Ytgmhhocpdfdplaa
open Go.RowKit
set_option maxRecDepth 100000
theorem tou_axis {z n u p c : Int} (hu : 1 ≤ u) (hp : 1 ≤ p) (h0 : z % u = 0) : (z < c / p * u + u ∧ c / p * u < z + n) ↔ (z / u * p ≤ c ∧ c < z / u * p + upI n u * p) := by
  have hz : z = z / u * u := by have := Int.mul_ediv_add_emod z u; rw [Int.mul_comm] at this; omega
  obtain ⟨q, hq⟩ : ∃ q, c / p = q := ⟨_, rfl⟩
  obtain ⟨m, hm⟩ : ∃ m, z / u = m := ⟨_, rfl⟩
  rw [hm] at hz
  rw [hq, hm]
  have e1 : (z < q * u + u) ↔ m * p ≤ c := by
    have : (m ≤ q) ↔ m * p ≤ c := by rw [← hq]; exact Int.le_ediv_iff_mul_le (by omega)
    rw [← this, hz]
    constructor
    · intro h
      have h2 : m * u < (q + 1) * u := by rw [Int.add_mul, Int.one_mul]; exact h
      have := Int.lt_of_mul_lt_mul_right h2 (by omega)
      omega
    · intro h
      have h2 : m * u ≤ q * u := Int.mul_le_mul_of_nonneg_right h (by omega)
      omega
  have e2 : (q * u < z + n) ↔ c < m * p + upI n u * p := by
    have h1 : (q < m + upI n u) ↔ c < (m + upI n u) * p := by rw [← hq]; exact Int.ediv_lt_iff_lt_mul (by omega)
    rw [← Int.add_mul, ← h1]
    have h2 : (q - m + 1 ≤ upI n u) ↔ (q - m + 1) * u ≤ n + u - 1 := by unfold upI; exact Int.le_ediv_iff_mul_le (by omega)
    have h3 : (q - m + 1) * u = q * u - m * u + u := by rw [Int.add_mul, Int.sub_mul, Int.one_mul]
    rw [h3] at h2
    constructor
    · intro h
      have : q - m + 1 ≤ upI n u := h2.2 (by omega)
      omega
    · intro h
      have := h2.1 (by omega)
      omega
  rw [e1, e2]
theorem touB_in {x : ImgArg} {X Y W H : Int} (h : unE x X Y W H = 0) {i : Nat} (hi : i < x.cs.length) (row col : Int) :
    touB x X Y W H i row col = decide ((unA x Y * pV x i ≤ row ∧ row < unA x Y * pV x i + upI H (uhI x) * pV x i) ∧ unB x X * pH x i ≤ col ∧ col < unB x X * pH x i + upI W (uwI x) * pH x i) := by
  obtain ⟨h0, h1, h2⟩ := unE_zero h
  have hR := (un_ok h).R
  obtain ⟨-, -, hu, hv, -⟩ := hR.nums
  obtain ⟨p1, p2, p3, p4⟩ := hR.part hi
  have a1 := tou_axis (z := X) (n := W) (u := uwI x) (p := pH x i) (c := col) (by omega) p1 h1
  have a2 := tou_axis (z := Y) (n := H) (u := uhI x) (p := pV x i) (c := row) (by omega) p3 h2
  unfold touB touN unA unB
  rw [decide_eq_decide, ← a1, ← a2]
  constructor
  · rintro ⟨k1, k2, k3, k4⟩; exact ⟨⟨k3, k4⟩, k1, k2⟩
  · rintro ⟨⟨k3, k4⟩, k1, k2⟩; exact ⟨k1, k2, k3, k4⟩
theorem firstE_val (e : Nat → Int) : ∀ f i, firstE e f i = 0 ∨ ∃ k, firstE e f i = e k
  | 0, _ => .inl rfl
  | f + 1, i => by
    by_cases h : e i = 0
    · rw [firstE_go e f i h]; exact firstE_val e f (i + 1)
    · rw [firstE_stop e f i h]; exact .inr ⟨i, rfl⟩
theorem firstE_ne (e : Nat → Int) (z : Int) (hz : z ≠ 0) (h : ∀ k, e k ≠ z) (f i : Nat) : firstE e f i ≠ z := by
  rcases firstE_val e f i with h1 | ⟨k, h1⟩
  · rw [h1]; exact fun h => hz h.symm
  · rw [h1]; exact h k
/-- No image's own error is that of an edge or of a rectangle. -/
theorem imgE_ne (x : ImgArg) (z : Int) (hz : z = 13 ∨ z = 14 ∨ z = 1) : imgE x ≠ z := by
  have hz0 : z ≠ 0 := by omega
  unfold imgE
  refine firstE_ne _ z hz0 (fun k => ?_) _ _
  have c1 : frE x ≠ z := by
    unfold frE newE rightE
    split
    · split
      · omega
      · split
        · omega
        · split <;> omega
    · split
      · omega
      · split <;> omega
  have c2 : compsE x.cs ≠ z := firstE_ne _ z hz0 (fun k => by unfold compE; split <;> omega) _ _
  have c3 : tablesE x ≠ z := by
    unfold tablesE
    split
    · exact firstE_ne _ z hz0 (fun k => by unfold compTE; split <;> omega) _ _
    · exact firstE_ne _ z hz0 (fun k => by unfold quantE; split <;> omega) _ _
  have c4 : planesE x ≠ z := firstE_ne _ z hz0 (fun k => by unfold planeE; split <;> omega) _ _
  have c5 : blocksE x.cs ≠ z := firstE_ne _ z hz0 (fun k => firstE_ne _ z hz0 (fun j => by unfold blockE; split <;> omega) _ _) _ _
  have c6 : tagsE x.ts ≠ z := by
    unfold tagsE
    split
    · omega
    · exact firstE_ne _ z hz0 (fun k => by unfold tagE; split; omega; split <;> omega) _ _
  match k with
  | 0 => exact c1
  | 1 => exact c2
  | 2 => exact c3
  | 3 => exact c4
  | 4 => exact c5
  | 5 => exact c6
  | k + 6 => show (0 : Int) ≠ z; omega
theorem wiE_ne (x : ImgArg) (X Y W H : Int) : wiE x X Y W H ≠ 13 ∧ wiE x X Y W H ≠ 1 := by
  unfold wiE
  split
  · split <;> omega
  · exact ⟨imgE_ne x 13 (.inl rfl), imgE_ne x 1 (.inr (.inr rfl))⟩
end Go.Proofs.Ytgmhhocpdfdplaa
/- Redacting: twice is once; what changes and what does not. -/
namespace Go.Proofs.Ytgmhhocpdfdplaa
open Go.RowKit
set_option maxRecDepth 100000
theorem SameD.reE {x y : ImgArg} (h : SameD x y) (X Y W H : Int) : reE y X Y W H = reE x X Y W H := by
  unfold Go.Proofs.Ytgmhhocpdfdplaa.reE uwI uhI
  rw [h.unE, h.qsP, h.w, h.h]
theorem SameD.redG {x y : ImgArg} (h : SameD x y) (X Y W H : Int) : redG y X Y W H = redG x X Y W H := by
  funext i
  have hq := h.qsP
  have hg := h.getD i
  unfold Go.Proofs.Ytgmhhocpdfdplaa.redG unA unB uwI uhI pH pV
  rw [hq]
  have e1 : (y.cs.getD i noComp).bs = (x.cs.getD i noComp).bs := congrArg (fun t => t.2.2.2) hg
  have e2 : (y.cs.getD i noComp).c = (x.cs.getD i noComp).c := congrArg (fun t => t.2.1) hg
  have e3 : (y.cs.getD i noComp).r = (x.cs.getD i noComp).r := congrArg (fun t => t.2.2.1) hg
  rw [e1, e2, e3]
theorem SameD.red {x y : ImgArg} (h : SameD x y) (X Y W H : Int) : SameD (redD x X Y W H) (redD y X Y W H) := by
  unfold redD
  rw [h.reE]
  by_cases h0 : Go.Proofs.Ytgmhhocpdfdplaa.reE x X Y W H = 0
  · rw [if_pos h0, if_pos h0]
    exact ⟨h.w, h.h, putAll_cd h.len (fun i _ => congrArg (fun t => t.1) (h.getD i)) (fun i _ => by rw [h.redG]), h.qs, h.ts⟩
  · rw [if_neg h0, if_neg h0]
    exact SameD.refl _
theorem blk_pnt {bs : List (List Int)} {S : Nat → Bool} {z : List Int} {n j : Nat} (h : j < n) : Pl.blk (Pl.pnt bs S z n) j = if S j = true then z else Pl.blk bs j := by
  have hj : j < (Pl.pnt bs S z n).length := by rw [Pl.pnt_len]; exact h
  rw [← Pl.blk_eq hj]
  simp [Pl.pnt]
theorem pnt_pnt (bs : List (List Int)) (S : Nat → Bool) (z : List Int) (n : Nat) : Pl.pnt (Pl.pnt bs S z n) S z n = Pl.pnt bs S z n := by
  show (List.range n).map _ = (List.range n).map _
  refine List.map_congr_left fun j hj => ?_
  rw [blk_pnt (List.mem_range.1 hj)]
  split <;> rfl
theorem redD_cs {x : ImgArg} {X Y W H : Int} (h : reE x X Y W H = 0) {i : Nat} (hi : i < x.cs.length) : (redD x X Y W H).cs.getD i noComp = setP (x.cs.getD i noComp) (redG x X Y W H i).c (redG x X Y W H i).r (.slice none 0 0) (redG x X Y W H i).l := by
  have hD : redD x X Y W H = putAll x (redG x X Y W H) := if_pos h
  rw [hD, putAll_getD x _ hi]
theorem redD_like {x : ImgArg} {X Y W H : Int} (h : reE x X Y W H = 0) : reE (redD x X Y W H) X Y W H = 0 ∧ SameD (redD x X Y W H) (redD (redD x X Y W H) X Y W H) := by
  obtain ⟨hu, hR⟩ := red_right h
  have hI := hR.imgE
  have hcs := fun i hi => redD_cs h (i := i) hi
  have hD : redD x X Y W H = putAll x (redG x X Y W H) := if_pos h
  have hst := putAll_strip2 x (redG x X Y W H)
  have hq : qsP (redD x X Y W H) = qsP x := by rw [hD]; unfold qsP; rw [psOf_eq hst]
  have hw : (redD x X Y W H).w = x.w := by rw [hD]; rfl
  have hh : (redD x X Y W H).h = x.h := by rw [hD]; rfl
  have hl : (redD x X Y W H).cs.length = x.cs.length := by rw [hD, putAll_len]
  have hix : imgE x = 0 := (wiE_zero (unE_zero hu).1).1
  generalize hE : redD x X Y W H = D at *
  have he : reE D X Y W H = 0 := by
    rw [← h]
    unfold reE unE wiE uwI uhI
    rw [hI, hix, hq, hw, hh]
  refine ⟨he, ?_⟩
  have hD2 : redD D X Y W H = putAll D (redG D X Y W H) := if_pos he
  rw [hD2]
  refine ⟨rfl, rfl, ?_, rfl, rfl⟩
  refine List.ext_getElem? fun i => ?_
  simp only [List.getElem?_map]
  by_cases hi : i < x.cs.length
  · have hi2 : i < D.cs.length := by rw [hl]; exact hi
    have hi3 : i < (putAll D (redG D X Y W H)).cs.length := by rw [putAll_len]; exact hi2
    rw [List.getElem?_eq_getElem hi2, List.getElem?_eq_getElem hi3]
    simp only [Option.map_some]
    congr 1
    rw [putAll_at D _ hi2 hi3, ← comp_getD hi2]
    have hc := hcs i hi
    unfold redG unA unB uwI uhI pH pV
    rw [hq, hc]
    unfold setP cd
    simp only
    unfold redG unA unB uwI uhI pH pV
    simp only [Pl.pnt_len, pnt_pnt]
  · have h1 : D.cs[i]? = none := List.getElem?_eq_none (by omega)
    have h2 : (putAll D (redG D X Y W H)).cs[i]? = none := List.getElem?_eq_none (by rw [putAll_len]; omega)
    rw [h1, h2]
/-- Redacting what was redacted. -/
theorem red_twice {x y : ImgArg} {X Y W H : Int} (h : reE x X Y W H = 0) (hy : SameD (redD x X Y W H) y) : reE y X Y W H = 0 ∧ SameD y (redD y X Y W H) := by
  obtain ⟨h1, h2⟩ := redD_like h
  exact ⟨by rw [hy.reE, h1], (hy.symm.trans h2).trans (hy.red X Y W H)⟩
/-- A redacted image's blocks. -/
theorem red_blk {x y : ImgArg} {X Y W H : Int} (h : reE x X Y W H = 0) (hy : SameD (redD x X Y W H) y) {i : Nat} (hi : i < x.cs.length) (hi' : i < y.cs.length) {c r a b hh d : Nat} (n : CutN x i hi X Y W H c r a b hh d) :
    (y.cs[i]'hi').bs.length = (x.cs[i]'hi).bs.length ∧ ∀ z, z < (x.cs[i]'hi).bs.length → Pl.blk (y.cs[i]'hi').bs z = if Pl.insI a b hh d c z = true then zero64 else Pl.blk (x.cs[i]'hi).bs z := by
  have hg := hy.getD i
  rw [redD_cs h hi, comp_getD hi', comp_getD hi] at hg
  have e1 : (y.cs[i]'hi').bs = (redG x X Y W H i).l := congrArg (fun t => t.2.2.2) hg
  rw [e1]
  unfold redG
  simp only
  rw [comp_getD hi, n.ec, n.ea, n.eb, n.eh, n.ed]
  simp only [Int.toNat_natCast]
  exact ⟨Pl.pnt_len _ _ _ _, fun z hz => blk_pnt hz⟩
end Go.Proofs.Ytgmhhocpdfdplaa
/- The reference's Crop and Redact: what stands while they run; Ends. -/
namespace Go.Proofs.Ytgmhhocpdfdplaa
open Go.RowKit
set_option maxRecDepth 100000
set_option maxHeartbeats 8000000
theorem tou_ins {x : ImgArg} {X Y W H : Int} (hu : unE x X Y W H = 0) {i : Nat} (hi : i < x.cs.length) {c r a b h d : Nat} (n : CutN x i hi X Y W H c r a b h d) (z : Nat) :
    touB x X Y W H i ((z : Int) / (c : Int)) ((z : Int) % (c : Int)) = Pl.insI a b h d c z := by
  rw [touB_in hu hi, n.ea, n.eb, n.eh, n.ed]
  unfold Pl.insI Pl.insB
  rw [Int.natCast_ediv, Int.natCast_emod, decide_eq_decide]
  omega
/-- The frame's box, the image's, the rectangle's. -/
structure EB (N : Nat) (x : ImgArg) (u gv : Value) (X Y W H : Int) (w V : World) : Prop where
  bF : Blk V N #[.int .i64 (uwI x), .int .i64 (uhI x), .int .i64 (acI x), .int .i64 (dnI x), u, gv] 44
  bN : Blk V (N + 1) #[.int .i64 x.w, .int .i64 x.h, x.cu, x.qu, x.tu] 26
  bR : Blk V (N + 2) #[.int .i64 X, .int .i64 Y, .int .i64 W, .int .i64 H] 68
  hB : Below N w V
theorem EB.below {N : Nat} {x : ImgArg} {u gv : Value} {X Y W H : Int} {w V V' : World} (h : EB N x u gv X Y W H w V) (hb : Below V.heap.size V V') : EB N x u gv X Y W H w V' :=
  ⟨h.bF.below hb h.bF.lt, h.bN.below hb h.bN.lt, h.bR.below hb h.bR.lt, h.hB.trans (hb.mono (Nat.le_of_lt h.bF.lt))⟩
theorem ref_ends (x : ImgArg) (hR : RightI x) (u gv : Value) (X Y W H : Int) (hX : 0 ≤ X ∧ X ≤ 16384) (hY : 0 ≤ Y ∧ Y ≤ 16384) (hW : 0 ≤ W ∧ W ≤ 16384) (hH : 0 ≤ H ∧ H ≤ 16384) (w : World) :
    Calls Try.prog 92 #[.agg (frV x u gv), x.val, .agg #[.int .i64 X, .int .i64 Y, .int .i64 W, .int .i64 H]] w fun r w' => r = .returned (.bool (decide (endB X W (uwI x) x.w = true ∧ endB Y H (uhI x) x.h = true))) ∧ Below w.heap.size w w' := by
  obtain ⟨R, hR2⟩ : ∃ R, decide (endB X W (uwI x) x.w = true ∧ endB Y H (uhI x) x.h = true) = R := ⟨_, rfl⟩
  rw [hR2]
  unfold endB at hR2
  simp only [decide_eq_true_eq] at hR2
  obtain ⟨-, -, hu, hv, -⟩ := hR.nums
  have HR := Lib.hid hR2
  have hS : EB w.heap.size x u gv X Y W H w (((w.alloc (.cells #[.int .i64 (uwI x), .int .i64 (uhI x), .int .i64 (acI x), .int .i64 (dnI x), u, gv] 44)).alloc (.cells #[.int .i64 x.w, .int .i64 x.h, x.cu, x.qu, x.tu] 26)).alloc (.cells #[.int .i64 X, .int .i64 Y, .int .i64 W, .int .i64 H] 68)) :=
    ⟨((Blk.new _ _ _).alloc _).alloc _, (Blk.new' _ _ _ (by simp)).alloc _, Blk.new' _ _ _ (by simp), (((Below.refl _ _).alloc (Nat.le_refl _) _).alloc (by simp) _).alloc (by simp; omega) _⟩
  obtain ⟨N, hN⟩ : ∃ N, N = w.heap.size := ⟨_, rfl⟩
  have HN := Lib.hid hN
  rw [← hN] at hS ⊢
  unfold frV ImgArg.val
  have hX1 := hX.1; have hX2 := hX.2; have hY1 := hY.1; have hY2 := hY.2; have hW1 := hW.1; have hW2 := hW.2; have hH1 := hH.1; have hH2 := hH.2
  clear hN hR2 hR hX hY hW hH
  go_enter Try.func92, Try.ntmps92
  go_upto_region 1 with fail
  rw [← HN.out]
  refine wp_world (EB N x u gv X Y W H w) hS ?_
  clear hS
  intro V hS
  refine wp_region_det (EB N x u gv X Y W H w) (by kernel_rfl) (by kernel_rfl) (hS.below (Below.refl _ _).drew) ?_
  clear hS
  obtain ⟨p, hp⟩ : ∃ p, X + W = p := ⟨_, rfl⟩
  obtain ⟨q, hq⟩ : ∃ q, Y + H = q := ⟨_, rfl⟩
  have HP := Lib.hid hp; have HQ := Lib.hid hq
  iterate 4 (first | (refine det_skip (by rfl) ?_; simp only [Act.put, List.setIfInBounds_toArray, List.set_cons_zero, List.set_cons_succ]) | (refine det_pure (v := ?_) (by rfl) ?_ ?_; rotate_left; (intro wS hS; have r0 := hS.bR.cell 0; have r1 := hS.bR.cell 1; have r2 := hS.bR.cell 2; have r3 := hS.bR.cell 3; go_simp; try with_reducible rfl); simp only [Act.put, List.setIfInBounds_toArray, List.set_cons_zero, List.set_cons_succ]))
  refine det_pure (v := .int .i64 p) (by rfl) (fun w1 hS => by go_simp; exact IntWalk.i64_in _ (by omega)) ?_
  simp only [Act.put, List.setIfInBounds_toArray, List.set_cons_zero, List.set_cons_succ]
  iterate 4 (first | (refine det_skip (by rfl) ?_; simp only [Act.put, List.setIfInBounds_toArray, List.set_cons_zero, List.set_cons_succ]) | (refine det_pure (v := ?_) (by rfl) ?_ ?_; rotate_left; (intro wS hS; have r0 := hS.bR.cell 0; have r1 := hS.bR.cell 1; have r2 := hS.bR.cell 2; have r3 := hS.bR.cell 3; go_simp; try with_reducible rfl); simp only [Act.put, List.setIfInBounds_toArray, List.set_cons_zero, List.set_cons_succ]))
  refine det_pure (v := .int .i64 q) (by rfl) (fun w1 hS => by go_simp; exact IntWalk.i64_in _ (by omega)) ?_
  simp only [Act.put, List.setIfInBounds_toArray, List.set_cons_zero, List.set_cons_succ]
  iterate 2 (first | (refine det_skip (by rfl) ?_; simp only [Act.put, List.setIfInBounds_toArray, List.set_cons_zero, List.set_cons_succ]) | (refine det_pure (v := ?_) (by rfl) ?_ ?_; rotate_left; (intro wS hS; have r0 := hS.bR.cell 0; have r1 := hS.bR.cell 1; have r2 := hS.bR.cell 2; have r3 := hS.bR.cell 3; go_simp; try with_reducible rfl); simp only [Act.put, List.setIfInBounds_toArray, List.set_cons_zero, List.set_cons_succ]))
  refine det_nil ?_
  intro V2 hS
  clear HP HQ
  have f0 := hS.bF.cell 0; have f1 := hS.bF.cell 1; have n0 := hS.bN.cell 0; have n1 := hS.bN.cell 1
  have hp0 : 0 ≤ p := by omega
  have hq0 : 0 ≤ q := by omega
  have hR3 := HR.out
  simp only [hp, hq] at hR3
  clear HR hp hq
  have HR := Lib.hid hR3
  clear hR3
  generalize uwI x = uw at *
  generalize uhI x = uh at *
  have k0 : uw ≠ 0 := by omega
  have k1 : uw ≠ -1 := by omega
  have k2 : uh ≠ 0 := by omega
  have k3 : uh ≠ -1 := by omega
  have hA : ((p % uw == 0) = true ∧ (p % uw = 0 ∨ p = x.w)) ∨ ((p % uw == 0) = false ∧ (p == x.w) = true ∧ (p % uw = 0 ∨ p = x.w)) ∨ ((p % uw == 0) = false ∧ (p == x.w) = false ∧ ¬ (p % uw = 0 ∨ p = x.w)) := by
    by_cases h1 : p % uw = 0
    · exact .inl ⟨by simpa using h1, .inl h1⟩
    · by_cases h2 : p = x.w
      · exact .inr (.inl ⟨by simpa using h1, by simpa using h2, .inr h2⟩)
      · exact .inr (.inr ⟨by simpa using h1, by simpa using h2, fun h => h.elim h1 h2⟩)
  have hC : ((q % uh == 0) = true ∧ (q % uh = 0 ∨ q = x.h)) ∨ ((q % uh == 0) = false ∧ (q == x.h) = true ∧ (q % uh = 0 ∨ q = x.h)) ∨ ((q % uh == 0) = false ∧ (q == x.h) = false ∧ ¬ (q % uh = 0 ∨ q = x.h)) := by
    by_cases h1 : q % uh = 0
    · exact .inl ⟨by simpa using h1, .inl h1⟩
    · by_cases h2 : q = x.h
      · exact .inr (.inl ⟨by simpa using h1, by simpa using h2, .inr h2⟩)
      · exact .inr (.inr ⟨by simpa using h1, by simpa using h2, fun h => h.elim h1 h2⟩)
  rcases hA with ⟨t1, hA⟩ | ⟨t1, t2, hA⟩ | ⟨t1, t2, hA⟩
  · rcases hC with ⟨t3, hC⟩ | ⟨t3, t4, hC⟩ | ⟨t3, t4, hC⟩
    · obtain rfl : R = true := by rw [← HR.out]; exact decide_eq_true ⟨hA, hC⟩
      clear HR hA hC
      go_wp2
      go_ret
      exact ⟨rfl, hS.hB⟩
    · obtain rfl : R = true := by rw [← HR.out]; exact decide_eq_true ⟨hA, hC⟩
      have t5 : decide (q = x.h) = true := by simpa using t4
      clear HR hA hC
      go_wp2
      go_ret
      exact ⟨rfl, hS.hB⟩
    · obtain rfl : R = false := by rw [← HR.out]; exact decide_eq_false fun h => hC h.2
      have t5 : decide (q = x.h) = false := by simpa using t4
      clear HR hA hC
      go_wp2
      go_ret
      exact ⟨rfl, hS.hB⟩
  · have t6 : decide (p = x.w) = true := by simpa using t2
    rcases hC with ⟨t3, hC⟩ | ⟨t3, t4, hC⟩ | ⟨t3, t4, hC⟩
    · obtain rfl : R = true := by rw [← HR.out]; exact decide_eq_true ⟨hA, hC⟩
      clear HR hA hC
      go_wp2
      go_ret
      exact ⟨rfl, hS.hB⟩
    · obtain rfl : R = true := by rw [← HR.out]; exact decide_eq_true ⟨hA, hC⟩
      have t5 : decide (q = x.h) = true := by simpa using t4
      clear HR hA hC
      go_wp2
      go_ret
      exact ⟨rfl, hS.hB⟩
    · obtain rfl : R = false := by rw [← HR.out]; exact decide_eq_false fun h => hC h.2
      have t5 : decide (q = x.h) = false := by simpa using t4
      clear HR hA hC
      go_wp2
      go_ret
      exact ⟨rfl, hS.hB⟩
  · have t6 : decide (p = x.w) = false := by simpa using t2
    obtain rfl : R = false := by rw [← HR.out]; exact decide_eq_false fun h => hA h.1
    clear HR hA hC
    go_wp2
    go_ret
    exact ⟨rfl, hS.hB⟩
/-- Components of a row of the call's own. -/
structure Cs (P : Nat) (oc : Value) (ys : List CompArg) (V : World) : Prop where
  row : Row V P 63 7 oc ys.length (ys.map CompArg.cells).flatten
  pl : ∀ c ∈ ys, Row V P 57 64 c.u c.bs.length (bcells c.bs) ∧ ∀ W', Ar W' 64 c.u c.bs.length (bcells c.bs) → c.Ok W'
theorem Cs.below {P : Nat} {oc : Value} {ys : List CompArg} {V V' : World} (h : Cs P oc ys V) (hb : Below V.heap.size V V') : Cs P oc ys V' := ⟨h.row.grow hb, fun c hc => ⟨(h.pl c hc).1.grow hb, (h.pl c hc).2⟩⟩
theorem Cs.comps {P : Nat} {oc : Value} {ys : List CompArg} {V : World} (h : Cs P oc ys V) (hl : ys.length ≤ 1000000) : IsComps V oc ys :=
  ⟨Ar.elems h.row.ar (fun c hc => by obtain ⟨p, _, rfl⟩ := List.mem_map.1 hc; rfl) (by simp) (by simp only [maxLen]; omega), fun c hc => (h.pl c hc).2 V (h.pl c hc).1.ar⟩
theorem Cs.nil (P : Nat) (V : World) : Cs P (.slice none 0 0) [] V := ⟨Row.nil _ _ _ _, fun c hc => by simp at hc⟩
/-- The boxes: the image, the rectangle, the result, the frame, what is built. -/
structure OC (N F P : Nat) (x : ImgArg) (X Y W H : Int) (u gv : Value) (wo ho : Int) (oc : Value) (ys : List CompArg) (w V : World) : Prop where
  l : LR N x X Y W H 68 w V
  bQ : Blk V (N + 2) #[.int .i64 0, .int .i64 0, .slice none 0 0, .slice none 0 0, .slice none 0 0] 26
  bF : Blk V F (frV x u gv) 44
  f : RFr x u gv V
  bP : Blk V P #[.int .i64 wo, .int .i64 ho, oc, x.qu, x.tu] 26
  cs : Cs (P + 1) oc ys V
  lo : N + 2 < F ∧ F < P
theorem OC.below {N F P : Nat} {x : ImgArg} {X Y W H : Int} {u gv : Value} {wo ho : Int} {oc : Value} {ys : List CompArg} {w V V' : World} (h : OC N F P x X Y W H u gv wo ho oc ys w V) (hb : Below V.heap.size V V') : OC N F P x X Y W H u gv wo ho oc ys w V' :=
  ⟨h.l.below hb, h.bQ.below hb h.bQ.lt, h.bF.below hb h.bF.lt, h.f.below hb, h.bP.below hb h.bP.lt, h.cs.below hb, h.lo⟩
theorem Blk.ar1b {w : World} {g : Nat} {x : List Int} {t : TypeId} (h : Blk w g (ints .i16 x) t) (hx : x.length = 64) : Ar w 64 (.slice (some ⟨g, 0, none⟩) 1 1) 1 (bcells [x]) := by
  refine ⟨by simp [bcells, hx], .inr ⟨_, 1, rfl, Nat.le_refl _, by unfold maxLen; decide, fun j v hj => ?_⟩⟩
  rw [Go.Addr.add_mid, Nat.zero_add, h.cell]
  simp only [bcells, List.flatMap_cons, List.flatMap_nil, List.append_nil] at hj
  simpa [ints] using hj
theorem OC.push {N F P : Nat} {x : ImgArg} {X Y W H : Int} {u gv : Value} {wo ho : Int} {o : Value} {ys : List CompArg} {w V V' : World} {v' : Value} {c' : CompArg} (HI : IsImg w x.val x) (h : OC N F P x X Y W H u gv wo ho o ys w V)
    (hg : V.grownBy V' o.ownBlock) (hR : Row V' (P + 1) 63 7 v' (ys.length + 1) ((ys.map CompArg.cells).flatten ++ c'.cells))
    (hc : Row V (P + 1) 57 64 c'.u c'.bs.length (bcells c'.bs)) (hok : ∀ W', Ar W' 64 c'.u c'.bs.length (bcells c'.bs) → c'.Ok W') :
    OC N F P x X Y W H u gv wo ho v' (ys ++ [c']) w (V'.setCell ⟨P, 2, none⟩ v') := by
  have hlo := h.lo
  have hM := h.l.l.hM
  have ne : ∀ {g : Nat} {cs : Array Value} {t : TypeId}, Blk V g cs t → t ≠ 63 → some g ≠ o.ownBlock := fun hb ht e => h.cs.row.typed hb ht _ e.symm rfl
  have key : ∀ {g : Nat} {cs : Array Value} {t : TypeId}, Blk V g cs t → t ≠ 63 → g ≠ P → (V'.setCell ⟨P, 2, none⟩ v').heap[g]? = V.heap[g]? := fun {g cs t} hb ht hp =>
    (heap_setCell_other _ _ _ _ hp).trans (hg.block g hb.lt (ne hb ht))
  have nP : ∀ {g : Nat} {cs : Array Value} {t : TypeId}, Blk V g cs t → t ≠ 26 → g ≠ P := fun {g cs t} hb ht e => by
    subst e
    have := hb.symm.trans h.bP
    simp at this
    exact ht this.2
  have hB : Below w.heap.size w (V'.setCell ⟨P, 2, none⟩ v') := (Below.grown h.l.l.hB (by have := h.l.l.bN.lt; omega) hg (fun g e => by have := (h.cs.row.lt g e).1; omega)).setCell (p := ⟨P, 2, none⟩) (by show _ ≤ P; omega) _
  have bP' : Blk V' P #[.int .i64 wo, .int .i64 ho, o, x.qu, x.tu] 26 := h.bP.grown hg (ne h.bP (by decide))
  refine ⟨⟨⟨(key h.l.l.bN (by decide) (by omega)).trans h.l.l.bN, HI.below hB, hM, hB⟩, (key h.l.bR (by decide) (by omega)).trans h.l.bR⟩, (key h.bQ (by decide) (by omega)).trans h.bQ, (key h.bF (by decide) (by omega)).trans h.bF, ⟨h.f.pr.sameT fun g cs hgb _ => key hgb (by decide) (nP hgb (by decide)), h.f.gr⟩, bP'.set 2 _, ⟨?_, ?_⟩, hlo⟩
  · have := hR.other ⟨P, 2, none⟩ v' (fun g e => hR.typed bP' (by decide) g e)
    simpa using this
  · intro c hc'
    rcases List.mem_append.1 hc' with hm | hm
    · exact ⟨(h.cs.pl c hm).1.sameT fun g cs hgb _ => key hgb (by decide) (nP hgb (by decide)), (h.cs.pl c hm).2⟩
    · rw [List.mem_singleton] at hm
      subst hm
      exact ⟨hc.sameT fun g cs hgb _ => key hgb (by decide) (nP hgb (by decide)), hok⟩
end Go.Proofs.Ytgmhhocpdfdplaa
/- The reference's Redact. -/
namespace Go.Proofs.Ytgmhhocpdfdplaa
open Go.RowKit
set_option maxRecDepth 100000
set_option maxHeartbeats 16000000
/-- An image and an error, as the reference yields them. -/
def RefRes (D : ImgArg) (e : Int) (r : Ending) (w' : World) : Prop := ∃ y : ImgArg, r = .returned (.tuple #[y.val, .int .i64 e]) ∧ SameD D y ∧ IsImg w' y.val y ∧ FewOk y
theorem unE_begW {x : ImgArg} {X Y W H : Int} (h : wiE x X Y W H = 0) : unE x X Y W H = if begB x X Y = true then 0 else 13 := by
  unfold unE begB
  rw [if_pos h]
  simp only [decide_eq_true_eq]
theorem reE_wi {x : ImgArg} {X Y W H : Int} (h : wiE x X Y W H ≠ 0) : reE x X Y W H = wiE x X Y W H ∧ redD x X Y W H = zeroI := by
  have hu : unE x X Y W H = wiE x X Y W H := by unfold unE; rw [if_neg h]
  have hr : reE x X Y W H = wiE x X Y W H := by unfold reE; rw [hu, if_neg h]
  exact ⟨hr, if_neg (by rw [hr]; exact h)⟩
theorem reE_beg {x : ImgArg} {X Y W H : Int} (h : wiE x X Y W H = 0) (hb : ¬ (begB x X Y = true ∧ decide (endB X W (uwI x) x.w = true ∧ endB Y H (uhI x) x.h = true) = true)) : reE x X Y W H = 13 ∧ redD x X Y W H = zeroI := by
  have hr : reE x X Y W H = 13 := by
    unfold reE
    rw [unE_begW h]
    by_cases h1 : begB x X Y = true
    · rw [if_pos h1, if_pos rfl, if_neg (fun h2 => hb ⟨h1, decide_eq_true h2⟩)]
    · rw [if_neg h1, if_neg (by decide)]
  exact ⟨hr, if_neg (by rw [hr]; decide)⟩
theorem reE_ok {x : ImgArg} {X Y W H : Int} (h : wiE x X Y W H = 0) (hb : begB x X Y = true ∧ decide (endB X W (uwI x) x.w = true ∧ endB Y H (uhI x) x.h = true) = true) : reE x X Y W H = 0 ∧ redD x X Y W H = putAll x (redG x X Y W H) ∧ unE x X Y W H = 0 := by
  have hr : reE x X Y W H = 0 := by
    unfold reE
    rw [unE_begW h, if_pos hb.1, if_pos rfl, if_pos (of_decide_eq_true hb.2)]
  exact ⟨hr, if_pos hr, by rw [unE_begW h, if_pos hb.1]⟩
/-- A component that is being built, its plane's box. -/
structure RS (C : Nat) (v0 v1 v2 v3 c r pc pr : Int) (v pu : Value) (L : List (List Int)) (V0 V : World) : Prop where
  bC : Blk V C #[.int .i64 v0, .int .i64 v1, .int .i64 v2, .int .i64 v3, .int .i64 pc, .int .i64 pr, v] 63
  bp : Blk V (C + 1) #[.int .i64 c, .int .i64 r, pu] 61
  row : Row V (C + 2) 57 64 v L.length (bcells L)
  hB : Below C V0 V
theorem RS.below {C : Nat} {v0 v1 v2 v3 c r pc pr : Int} {v pu : Value} {L : List (List Int)} {V0 V V' : World} (h : RS C v0 v1 v2 v3 c r pc pr v pu L V0 V) (hb : Below V.heap.size V V') : RS C v0 v1 v2 v3 c r pc pr v pu L V0 V' :=
  ⟨h.bC.below hb h.bC.lt, h.bp.below hb h.bp.lt, h.row.grow hb, h.hB.trans (hb.mono (Nat.le_of_lt h.bC.lt))⟩
theorem ref_redact (x : ImgArg) (hf : FewOk x) (X Y W H : Int) (w : World) (hI : IsImg w x.val x) :
    Calls Try.prog 42 #[x.val, .agg #[.int .i64 X, .int .i64 Y, .int .i64 W, .int .i64 H]] w fun r w' => RefRes (redD x X Y W H) (reE x X Y W H) r w' ∧ Below w.heap.size w w' := by
  have HI := Lib.hid hI
  have hL := LR.begin hI X Y W H 68
  obtain ⟨N, hN⟩ : ∃ N, N = w.heap.size := ⟨_, rfl⟩
  rw [← hN] at hL
  have HN := Lib.hid hN
  have hc20 := hf.c20
  have hwi := fun V h => ref_within19 x hf X Y W H V h
  have HB1 := Lib.hid (fun h => reE_wi (x := x) (X := X) (Y := Y) (W := W) (H := H) h)
  have HB2 := Lib.hid (fun h => reE_beg (x := x) (X := X) (Y := Y) (W := W) (H := H) h)
  have HB3 := Lib.hid (fun h => reE_ok (x := x) (X := X) (Y := Y) (W := W) (H := H) h)
  have HWZ := Lib.hid (fun h => wiE_zero (x := x) (X := X) (Y := Y) (W := W) (H := H) h)
  generalize wiE x X Y W H = G at *
  generalize reE x X Y W H = RE at *
  generalize redD x X Y W H = RD at *
  rw [← hN]
  clear hN hI
  unfold ImgArg.val at hwi ⊢
  go_enter Try.func42, Try.ntmps42
  go_upto_region 1 with fail
  refine wp_world (fun V => LR N x X Y W H 68 w V ∧ Blk V (N + 2) #[.int .i64 0, .int .i64 0, .slice none 0 0, .slice none 0 0, .slice none 0 0] 26) ⟨hL.below ((Below.refl _ _).alloc (Nat.le_refl _) _), Blk.new' _ _ _ (by rw [HN.out]; simp)⟩ ?_
  rw [← HN.out]
  clear hL
  rintro V0 ⟨hL, bQ⟩
  go_upto_region 2 with (first
    | (refine wpList_load_row rfl 26 _ rfl N rfl 26 _ _ _ hL.l.bN Try.underlying26 rfl (by kernel_rfl) ?_) | (refine wpList_load_row rfl 68 _ rfl (N + 1) rfl 68 _ _ _ hL.bR Try.underlying68 rfl (by kernel_rfl) ?_)
    | (go_at_call 36; refine (hwi _ hL.l.img).mono ?_; rintro e w4 ⟨rfl, hb4⟩; replace hL := hL.below hb4; replace bQ := bQ.below hb4 bQ.lt))
  clear hwi
  by_cases hG : G = 0
  case neg =>
    obtain ⟨rfl, rfl⟩ := HB1.out hG
    have t1 : (RE != 0) = true := by simpa using hG
    have hNN := hL.l.hM
    clear HB1 HB2 HB3 HWZ hG
    go_wp2_with (refine wpList_store_row rfl 26 _ _ rfl (N + 2) _ rfl rfl 26 _ bQ (by kernel_rfl) rfl (by simp [Value.oneCell']) ?_)
    refine bodyPost_ret (results_row_tmp rfl _ _ (N + 2) 26 _ _ rfl (bQ.row _) Try.underlying26 rfl (by kernel_rfl)) rfl ?_
    exact ⟨⟨zeroI, rfl, SameD.refl _, zeroI_img _, zeroI_few⟩, (by have := hL.l.hB; rw [← HN.out] at this; exact Below.setRow this (by omega) _)⟩
  subst hG
  have hb2 := HB2.out rfl
  have hb3 := HB3.out rfl
  have hwz := HWZ.out rfl
  have HB2' := Lib.hid hb2; have HB3' := Lib.hid hb3
  clear HB1 HB2 HB3 HWZ hb2 hb3
  obtain ⟨hie, ⟨x1, x2, x3, x4⟩, y1, y2, y3, y4⟩ := hwz
  have hR := right_of_imgE hie
  obtain ⟨n1, n2, n3, n4, n5, n6⟩ := hR.nums
  have hfr := fun V hI => ref_frame19 x hR V hI hc20
  have HBG := Lib.hid (fun u gv V hI => ref_begins x hR u gv X Y W H ⟨x1, by omega⟩ ⟨y1, by omega⟩ V hI)
  have HEN := Lib.hid (fun u gv V => ref_ends x hR u gv X Y W H ⟨x1, by omega⟩ ⟨y1, by omega⟩ ⟨by omega, by omega⟩ ⟨by omega, by omega⟩ V)
  have HTC := Lib.hid (fun u gv k hk row col hr hc V hI => ref_touched x hR u gv X Y W H ⟨x1, by omega⟩ ⟨y1, by omega⟩ ⟨by omega, by omega⟩ ⟨by omega, by omega⟩ k hk row col hr hc V hI)
  clear x1 x2 x3 x4 y1 y2 y3 y4 n1 n2 n3 n4 n5 n6 hie
  unfold ImgArg.val at hfr HEN
  go_upto_region 5 with (first
    | (refine wpList_load_row rfl 26 _ rfl N rfl 26 _ _ _ hL.l.bN Try.underlying26 rfl (by kernel_rfl) ?_) | (refine wpList_load_row rfl 68 _ rfl (N + 1) rfl 68 _ _ _ hL.bR Try.underlying68 rfl (by kernel_rfl) ?_)
    | (go_at_call 25; refine (hfr _ hL.l.img).mono ?_; rintro e w5 ⟨⟨u, gv, rfl, hF⟩, hb5⟩; replace hL := hL.below hb5; replace bQ := bQ.below hb5 bQ.lt; have hone : (frV x u gv).all (·.oneCell') = true := (by obtain ⟨_, _, h1⟩ := hF.pr.len; obtain ⟨_, _, _, h2⟩ := hF.gr; rw [h1, h2]; simp [frV, Value.oneCell']); obtain ⟨F, hF0⟩ : ∃ F, F = w5.heap.size := ⟨_, rfl⟩; have HF := Lib.hid hF0; clear hF0)
    | (refine wpList_store_row rfl 44 _ _ rfl F _ (by rw [HF.out]; rfl) rfl 44 _ (Blk.new' _ _ _ HF.out) (by kernel_rfl) rfl hone ?_; simp only [Act.put]))
  have hbe : Below w5.heap.size w5 ((w5.alloc (.cells #[.int .i64 0, .int .i64 0, .int .i64 0, .int .i64 0, .slice none 0 0, .slice none 0 0] 44)).setRow F (frV x u gv)) := Below.setRow ((Below.refl _ _).alloc (Nat.le_refl _) _) (Nat.le_of_eq HF.out.symm) _
  have hNF : N + 2 < F := by rw [HF.out]; exact bQ.lt
  have HNF := Lib.hid hNF
  refine wp_world (fun V => LR N x X Y W H 68 w V ∧ Blk V (N + 2) #[.int .i64 0, .int .i64 0, .slice none 0 0, .slice none 0 0, .slice none 0 0] 26 ∧ Blk V F (frV x u gv) 44 ∧ RFr x u gv V) ⟨hL.below hbe, bQ.below hbe bQ.lt, (Blk.new' _ _ _ HF.out).row _, hF.below hbe⟩ ?_
  rw [← HF.out]
  clear hbe hL bQ hF HF hb5 hfr hone hNF
  rintro V2 ⟨hL, bQ, bF, hF⟩
  have hbg := HBG.out u gv
  have hen := HEN.out u gv
  have hb2 := HB2'.out; have hb3 := HB3'.out
  generalize decide (endB X W (uwI x) x.w = true ∧ endB Y H (uhI x) x.h = true) = E at *
  generalize begB x X Y = B at *
  have HB2 := Lib.hid hb2; have HB3 := Lib.hid hb3
  clear HB2' HB3' hb2 hb3 HBG HEN
  unfold frV at hbg hen
  have hNN := hL.l.hM
  by_cases hBE : B = true ∧ E = true
  case neg =>
    obtain ⟨rfl, rfl⟩ := HB2.out hBE
    clear HB2 HB3 HTC
    cases B with
    | false =>
      clear hBE
      go_wp2_with (first
        | (refine wpList_load_row rfl 26 _ rfl N rfl 26 _ _ _ hL.l.bN Try.underlying26 rfl (by kernel_rfl) ?_) | (refine wpList_load_row rfl 68 _ rfl (N + 1) rfl 68 _ _ _ hL.bR Try.underlying68 rfl (by kernel_rfl) ?_)
        | (refine wpList_load_row rfl 44 _ rfl F rfl 44 _ _ _ bF Try.underlying44 rfl (by kernel_rfl) ?_)
        | (go_at_call 37; refine (hbg _ hF).mono ?_; rintro e w6 ⟨rfl, hb6⟩; replace hL := hL.below hb6; replace bQ := bQ.below hb6 bQ.lt; replace bF := bF.below hb6 bF.lt; replace hF := hF.below hb6; have f0 : w6.cell? ⟨F, 0, none⟩ = some (.int .i64 (uwI x)) := bF.cell 0; have f1 : w6.cell? ⟨F, 1, none⟩ = some (.int .i64 (uhI x)) := bF.cell 1; have f2 : w6.cell? ⟨F, 2, none⟩ = some (.int .i64 (acI x)) := bF.cell 2; have f3 : w6.cell? ⟨F, 3, none⟩ = some (.int .i64 (dnI x)) := bF.cell 3; have f4 : w6.cell? ⟨F, 4, none⟩ = some (u) := bF.cell 4; have f5 : w6.cell? ⟨F, 5, none⟩ = some (gv) := bF.cell 5; have a0 := hL.l.bN.cell 0; have a1 := hL.l.bN.cell 1; have a2 := hL.l.bN.cell 2; have a3 := hL.l.bN.cell 3; have a4 := hL.l.bN.cell 4; have r0 := hL.bR.cell 0; have r1 := hL.bR.cell 1; have r2 := hL.bR.cell 2; have r3 := hL.bR.cell 3)
        | (refine wpList_store_row rfl 26 _ _ rfl (N + 2) _ rfl rfl 26 _ bQ (by kernel_rfl) rfl (by simp [Value.oneCell']) ?_))
      refine bodyPost_ret (results_row_tmp rfl _ _ (N + 2) 26 _ _ rfl (bQ.row _) Try.underlying26 rfl (by kernel_rfl)) rfl ?_
      exact ⟨⟨zeroI, rfl, SameD.refl _, zeroI_img _, zeroI_few⟩, (by have := hL.l.hB; rw [← HN.out] at this; exact Below.setRow this (by omega) _)⟩
    | true =>
      obtain rfl : E = false := by cases E with | false => rfl | true => exact absurd ⟨rfl, rfl⟩ hBE
      clear hBE
      go_wp2_with (first
        | (refine wpList_load_row rfl 26 _ rfl N rfl 26 _ _ _ hL.l.bN Try.underlying26 rfl (by kernel_rfl) ?_) | (refine wpList_load_row rfl 68 _ rfl (N + 1) rfl 68 _ _ _ hL.bR Try.underlying68 rfl (by kernel_rfl) ?_)
        | (refine wpList_load_row rfl 44 _ rfl F rfl 44 _ _ _ bF Try.underlying44 rfl (by kernel_rfl) ?_)
        | (go_at_call 37; refine (hbg _ hF).mono ?_; rintro e w6 ⟨rfl, hb6⟩; replace hL := hL.below hb6; replace bQ := bQ.below hb6 bQ.lt; replace bF := bF.below hb6 bF.lt; replace hF := hF.below hb6; have f0 : w6.cell? ⟨F, 0, none⟩ = some (.int .i64 (uwI x)) := bF.cell 0; have f1 : w6.cell? ⟨F, 1, none⟩ = some (.int .i64 (uhI x)) := bF.cell 1; have f2 : w6.cell? ⟨F, 2, none⟩ = some (.int .i64 (acI x)) := bF.cell 2; have f3 : w6.cell? ⟨F, 3, none⟩ = some (.int .i64 (dnI x)) := bF.cell 3; have f4 : w6.cell? ⟨F, 4, none⟩ = some (u) := bF.cell 4; have f5 : w6.cell? ⟨F, 5, none⟩ = some (gv) := bF.cell 5; have a0 := hL.l.bN.cell 0; have a1 := hL.l.bN.cell 1; have a2 := hL.l.bN.cell 2; have a3 := hL.l.bN.cell 3; have a4 := hL.l.bN.cell 4; have r0 := hL.bR.cell 0; have r1 := hL.bR.cell 1; have r2 := hL.bR.cell 2; have r3 := hL.bR.cell 3)
        | (go_at_call 92; refine (hen _).mono ?_; rintro e w7 ⟨rfl, hb7⟩; replace hL := hL.below hb7; replace bQ := bQ.below hb7 bQ.lt; replace bF := bF.below hb7 bF.lt; replace hF := hF.below hb7)
        | (refine wpList_store_row rfl 26 _ _ rfl (N + 2) _ rfl rfl 26 _ bQ (by kernel_rfl) rfl (by simp [Value.oneCell']) ?_))
      refine bodyPost_ret (results_row_tmp rfl _ _ (N + 2) 26 _ _ rfl (bQ.row _) Try.underlying26 rfl (by kernel_rfl)) rfl ?_
      exact ⟨⟨zeroI, rfl, SameD.refl _, zeroI_img _, zeroI_few⟩, (by have := hL.l.hB; rw [← HN.out] at this; exact Below.setRow this (by omega) _)⟩
  obtain ⟨rfl, hRD, hU⟩ := HB3.out hBE
  obtain ⟨rfl, rfl⟩ := hBE
  have HU := Lib.hid hU
  have HRD := Lib.hid hRD
  clear HB2 HB3 hU hRD
  go_upto_region 7 with (first
    | (refine wpList_load_row rfl 26 _ rfl N rfl 26 _ _ _ hL.l.bN Try.underlying26 rfl (by kernel_rfl) ?_) | (refine wpList_load_row rfl 68 _ rfl (N + 1) rfl 68 _ _ _ hL.bR Try.underlying68 rfl (by kernel_rfl) ?_)
    | (refine wpList_load_row rfl 44 _ rfl F rfl 44 _ _ _ bF Try.underlying44 rfl (by kernel_rfl) ?_)
    | (go_at_call 37; refine (hbg _ hF).mono ?_; rintro e w6 ⟨rfl, hb6⟩; replace hL := hL.below hb6; replace bQ := bQ.below hb6 bQ.lt; replace bF := bF.below hb6 bF.lt; replace hF := hF.below hb6; have f0 : w6.cell? ⟨F, 0, none⟩ = some (.int .i64 (uwI x)) := bF.cell 0; have f1 : w6.cell? ⟨F, 1, none⟩ = some (.int .i64 (uhI x)) := bF.cell 1; have f2 : w6.cell? ⟨F, 2, none⟩ = some (.int .i64 (acI x)) := bF.cell 2; have f3 : w6.cell? ⟨F, 3, none⟩ = some (.int .i64 (dnI x)) := bF.cell 3; have f4 : w6.cell? ⟨F, 4, none⟩ = some (u) := bF.cell 4; have f5 : w6.cell? ⟨F, 5, none⟩ = some (gv) := bF.cell 5; have a0 := hL.l.bN.cell 0; have a1 := hL.l.bN.cell 1; have a2 := hL.l.bN.cell 2; have a3 := hL.l.bN.cell 3; have a4 := hL.l.bN.cell 4; have r0 := hL.bR.cell 0; have r1 := hL.bR.cell 1; have r2 := hL.bR.cell 2; have r3 := hL.bR.cell 3)
    | (go_at_call 92; refine (hen _).mono ?_; rintro e w7 ⟨rfl, hb7⟩; replace hL := hL.below hb7; replace bQ := bQ.below hb7 bQ.lt; replace bF := bF.below hb7 bF.lt; replace hF := hF.below hb7))
  clear a0 a1 a2 a3 a4 r0 r1 r2 r3 f0 f1 f2 f3 f4 f5 hbg hen
  obtain ⟨qb, qcap, hqu⟩ := HI.out.qs.len
  obtain ⟨tb, tcap, htu⟩ := HI.out.ts.len
  have a0 := hL.l.bN.cell 0; have a1 := hL.l.bN.cell 1
  have a3 : w7.cell? ⟨N, 3, none⟩ = some (.slice qb x.qs.length qcap) := by rw [← hqu]; exact hL.l.bN.cell 3
  have a4 : w7.cell? ⟨N, 4, none⟩ = some (.slice tb x.ts.length tcap) := by rw [← htu]; exact hL.l.bN.cell 4
  have HQU := Lib.hid hqu; have HTU := Lib.hid htu
  clear hqu htu
  obtain ⟨P, hP⟩ : ∃ P, P = w7.heap.size := ⟨_, rfl⟩
  have HP := Lib.hid hP
  clear hP
  go_upto_region 8 with (refine wpList_store_row rfl 26 _ _ rfl P _ (by rw [HP.out]; rfl) rfl 26 _ (Blk.new' _ _ _ HP.out) (by kernel_rfl) rfl (by simp [Value.oneCell']) ?_; simp only [Act.put])
  have hPF : F < P := by rw [HP.out]; exact bF.lt
  have hbe : Below w7.heap.size w7 ((w7.alloc (.cells #[.int .i64 0, .int .i64 0, .slice none 0 0, .slice none 0 0, .slice none 0 0] 26)).setRow P #[.int .i64 x.w, .int .i64 x.h, .slice none 0 0, .slice qb x.qs.length qcap, .slice tb x.ts.length tcap]) := Below.setRow ((Below.refl _ _).alloc (Nat.le_refl _) _) (Nat.le_of_eq HP.out.symm) _
  refine wp_world (OC N F P x X Y W H u gv x.w x.h (.slice none 0 0) [] w) ⟨hL.below hbe, bQ.below hbe bQ.lt, bF.below hbe bF.lt, hF.below hbe, (by rw [HQU.out, HTU.out]; exact (Blk.new' _ _ _ HP.out).row _), Cs.nil _ _, HNF.out, hPF⟩ ?_
  rw [← HP.out]
  clear hbe hL bQ bF hF a0 a1 a3 a4 hb7 hPF
  intro V3 hO
  have HPL := Lib.hid HI.out.planes
  obtain ⟨cb, ccap, hcu⟩ := HI.out.cs.len
  have HCU := Lib.hid hcu
  clear hcu
  go_wp2
  go_loopw [10] (fun iv wr => ∃ (k : Nat) (o : Value) (ys : List CompArg), k ≤ x.cs.length ∧ iv = .int .i64 k ∧ ys.map cd = ((List.range k).map fun i => cd (setP (x.cs.getD i noComp) (redG x X Y W H i).c (redG x X Y W H i).r (.slice none 0 0) (redG x X Y W H i).l)) ∧ OC N F P x X Y W H u gv x.w x.h o ys w wr) (fun iv _ => x.cs.length - (intOf iv).toNat)
  case atStart => exact ⟨0, _, [], Nat.zero_le _, rfl, rfl, hO⟩
  case round =>
    clear hO
    obtain ⟨k, o, ys, hk, rfl, hys, hO⟩ := hrel
    have q2 : wr.cell? ⟨N, 2, none⟩ = some (.slice cb x.cs.length ccap) := by rw [← HCU.out]; exact hO.l.l.bN.cell 2
    by_cases hlt : k < x.cs.length
    · have tl : decide (k < x.cs.length) = true := by simpa using hlt
      have hcs : IsComps wr (.slice cb x.cs.length ccap) x.cs := by have := hO.l.l.img.cs; rwa [HCU.out] at this
      obtain ⟨aa, rfl, c0, c1, c2, c3, c4, c5, c6⟩ := hcs.at hlt
      have hAr := (hcs.ok _ (List.getElem_mem hlt)).ar
      have hok := hcs.ok _ (List.getElem_mem hlt)
      have HOK := Lib.hid hok
      obtain ⟨c, r, a, b, h, d, n⟩ := (un_ok HU.out).nats hlt
      have hti := tou_ins HU.out hlt n
      have HTI := Lib.hid hti
      have hG : redG x X Y W H k = ⟨c, r, Pl.pnt (x.cs[k]'hlt).bs (Pl.insI a b h d c) zero64 (x.cs[k]'hlt).bs.length⟩ := by
        unfold redG
        rw [comp_getD hlt, n.ec, n.er, n.ea, n.eb, n.eh, n.ed]
        simp only [Int.toNat_natCast]
      have HGK := Lib.hid hG
      have HNN := Lib.hid n
      rw [n.ec] at c4
      rw [n.er] at c5
      have j0 : (0 : Int) ≤ (k : Int) := by omega
      have j1 : (k : Int) < (x.cs.length : Int) := by omega
      have hx64 := hok.h64
      have hbl : (x.cs[k]'hlt).bs.length ≤ 16384 := by rw [n.n]; exact n.cr
      clear hcs hok hti hG n
      generalize hgb : (x.cs[k]'hlt).bs = bs at *
      generalize hv0 : (x.cs[k]'hlt).id = v0 at *
      generalize hv1 : (x.cs[k]'hlt).h = v1 at *
      generalize hv2 : (x.cs[k]'hlt).v = v2 at *
      generalize hv3 : (x.cs[k]'hlt).q = v3 at *
      generalize (x.cs[k]'hlt).u = u1 at *
      obtain ⟨ub, uc, rfl, -, -⟩ := hAr.len
      obtain ⟨C, hC⟩ : ∃ C, C = wr.heap.size := ⟨_, rfl⟩
      have HC := Lib.hid hC
      clear hC
      go_upto_region 14 with fail
      have HV := Lib.hid (And.intro hv0 (And.intro hv1 (And.intro hv2 hv3)))
      have HGB := Lib.hid hgb
      clear hv0 hv1 hv2 hv3 hgb q2 tl c0 c1 c2 c3 c4 c5 c6
      have hbe : Below C wr ((wr.alloc (.cells #[.int .i64 v0, .int .i64 v1, .int .i64 v2, .int .i64 v3, .int .i64 c, .int .i64 r, .slice none 0 0] 63)).alloc (.cells #[.int .i64 c, .int .i64 r, .slice ub bs.length uc] 61)) := by rw [HC.out]; exact ((Below.refl _ _).alloc (Nat.le_refl _) _).alloc (by simp) _
      have hS0 : RS C v0 v1 v2 v3 c r c r (.slice none 0 0) (.slice ub bs.length uc) [] wr ((wr.alloc (.cells #[.int .i64 v0, .int .i64 v1, .int .i64 v2, .int .i64 v3, .int .i64 c, .int .i64 r, .slice none 0 0] 63)).alloc (.cells #[.int .i64 c, .int .i64 r, .slice ub bs.length uc] 61)) := ⟨(Blk.new' _ _ _ HC.out).alloc _, Blk.new' _ _ _ (by rw [HC.out]; simp), by simpa [bcells] using Row.nil _ _ _ _, hbe⟩
      refine wp_world (RS C v0 v1 v2 v3 c r c r (.slice none 0 0) (.slice ub bs.length uc) [] wr) hS0 ?_
      rw [← HC.out]
      clear hbe hS0
      intro V4 hS
      obtain ⟨Wb, rfl⟩ : ∃ W, W = wr := ⟨_, rfl⟩
      have HOB := Lib.hid (fun V (hS : Below C Wb V) => hO.below (by rw [← HC.out]; exact hS))
      have HAB := Lib.hid (fun V (hS : Below C Wb V) => hAr.below (by rw [← HC.out]; exact hS))
      have hCP : P < C := by rw [HC.out]; exact hO.bP.lt
      have htc := HTC.out u gv k hlt
      have hc16 := HNN.out.c1
      have hr16 := HNN.out.r1
      have hc1 : 1 ≤ c := by have := HNN.out.bd; have := HNN.out.d1; omega
      clear hAr
      go_wp2
      go_loopw [13] (fun iv V => ∃ (z : Nat) (v : Value), z ≤ bs.length ∧ iv = .int .i64 z ∧ RS C v0 v1 v2 v3 c r c r v (.slice ub bs.length uc) (Pl.pnt bs (Pl.insI a b h d c) zero64 z) Wb V) (fun iv _ => bs.length - (intOf iv).toNat)
      case atStart => exact ⟨0, _, Nat.zero_le _, rfl, hS⟩
      case round =>
        clear hS
        obtain ⟨z, v, hz, rfl, hS⟩ := hrel
        have p2 := hS.bp.cell 2
        by_cases hzl : z < bs.length
        · have tz : decide (z < bs.length) = true := by simpa using hzl
          have z1 : (0 : Int) ≤ (z : Int) := by omega
          have z2 : (z : Int) ≤ 16384 := by omega
          have z3 : (z : Int) < (bs.length : Int) := by omega
          go_upto_region 17 with fail
          clear p2 tz
          have a1 : 0 ≤ (z : Int) / (c : Int) := Int.ediv_nonneg z1 (by omega)
          have a2 : (z : Int) / (c : Int) ≤ z := Int.ediv_le_self _ z1
          have a3 : 0 ≤ (z : Int) % (c : Int) := Int.emod_nonneg _ (by omega)
          have a4 : (z : Int) % (c : Int) < c := Int.emod_lt_of_pos _ (by omega)
          have htz := htc ((z : Int) / (c : Int)) ((z : Int) % (c : Int)) ⟨a1, by omega⟩ ⟨a3, by omega⟩
          rw [HTI.out z] at htz
          have hcN : ¬ c = 0 := by omega
          have hq1 : IntKind.i64.wrap ((z : Int) / (c : Int)) = (z : Int) / (c : Int) := IntWalk.i64_in _ (by omega)
          refine wp_region_det (RS C v0 v1 v2 v3 c r c r v (.slice ub bs.length uc) (Pl.pnt bs (Pl.insI a b h d c) zero64 z) Wb) (by kernel_rfl) (by kernel_rfl) (hS.below (Below.refl _ _).drew) ?_
          clear hS a1 a2 a3 a4
          refine det_load_row (by rfl) 44 _ rfl F rfl 44 _ _ (fun w1 hS => (HOB.out w1 hS.hB).bF) Try.underlying44 rfl (by kernel_rfl) ?_
          simp only [Act.put, List.setIfInBounds_toArray, List.set_cons_zero, List.set_cons_succ]
          refine det_load_row (by rfl) 68 _ rfl (N + 1) rfl 68 _ _ (fun w1 hS => (HOB.out w1 hS.hB).l.bR) Try.underlying68 rfl (by kernel_rfl) ?_
          simp only [Act.put, List.setIfInBounds_toArray, List.set_cons_zero, List.set_cons_succ]
          iterate 3 (first | (refine det_skip (by rfl) ?_; simp only [Act.put, List.setIfInBounds_toArray, List.set_cons_zero, List.set_cons_succ]) | (refine det_pure (v := ?_) (by rfl) ?_ ?_; rotate_left; (intro wS hS; go_simp; try with_reducible rfl); simp only [Act.put, List.setIfInBounds_toArray, List.set_cons_zero, List.set_cons_succ]))
          refine det_pure (v := .int .i64 c) (by rfl) (fun w1 hS => by have cy := hS.bp.cell 0; go_simp; try with_reducible rfl) ?_
          simp only [Act.put, List.setIfInBounds_toArray, List.set_cons_zero, List.set_cons_succ]
          refine det_pure (v := .int .i64 ((z : Int) / (c : Int))) (by rfl) (fun w1 hS => by go_simp) ?_
          simp only [Act.put, List.setIfInBounds_toArray, List.set_cons_zero, List.set_cons_succ]
          iterate 2 (first | (refine det_skip (by rfl) ?_; simp only [Act.put, List.setIfInBounds_toArray, List.set_cons_zero, List.set_cons_succ]) | (refine det_pure (v := ?_) (by rfl) ?_ ?_; rotate_left; (intro wS hS; go_simp; try with_reducible rfl); simp only [Act.put, List.setIfInBounds_toArray, List.set_cons_zero, List.set_cons_succ]))
          refine det_pure (v := .int .i64 c) (by rfl) (fun w1 hS => by have cy := hS.bp.cell 0; go_simp; try with_reducible rfl) ?_
          simp only [Act.put, List.setIfInBounds_toArray, List.set_cons_zero, List.set_cons_succ]
          refine det_pure (v := .int .i64 ((z : Int) % (c : Int))) (by rfl) (fun w1 hS => by go_simp; exact Int.tmod_eq_emod_of_nonneg (by omega)) ?_
          simp only [Act.put, List.setIfInBounds_toArray, List.set_cons_zero, List.set_cons_succ]
          refine det_call (v := .bool (Pl.insI a b h d c z)) (by rfl) (by intro wS hS; go_simp; first | done | exact ⟨rfl, rfl⟩) (fun V hS => ?_) ?_
          · exact (htz V (HOB.out V hS.hB).f).mono fun e w' hh => ⟨hh.1, hS.below hh.2⟩
          simp only [Act.put, List.setIfInBounds_toArray, List.set_cons_zero, List.set_cons_succ]
          refine det_nil ?_
          rintro W2 hS
          clear htz hq1
          have hsel := Pl.pnt_succ bs (Pl.insI a b h d c) zero64 z
          have hz64 : zero64.length = 64 := by simp [zero64]
          have hln := Nat.le_of_eq (Pl.pnt_len bs (Pl.insI a b h d c) zero64 z)
          have hc0 : C < W2.heap.size := hS.bC.lt
          by_cases hin : Pl.insI a b h d c z = true
          · rw [hin]
            rw [if_pos hin] at hsel
            have HSEL := Lib.hid hsel
            clear hsel
            generalize Pl.pnt bs (Pl.insI a b h d c) zero64 z = L at *
            obtain ⟨bv, cv, rfl⟩ := hS.row.len
            have q6' := hS.bC.cell 6
            have hPa := hS.below ((Below.refl W2.heap.size W2).alloc (Nat.le_refl _) (.cells (ints .i16 zero64) 57))
            have hmid := (Blk.new W2 (ints .i16 zero64) 57).ar1b hz64
            have hRw := hPa.row
            have hb7 := hPa.bC
            have hc1' : C + 1 ≤ (W2.alloc (.cells (ints .i16 zero64) 57)).heap.size := hb7.lt
            have hc2' : C + 2 ≤ (W2.alloc (.cells (ints .i16 zero64) 57)).heap.size := hPa.bp.lt
            have hne : ∀ g, (Value.slice bv L.length cv).ownBlock = some g → C + 2 ≤ g := fun g hg => (hRw.lt g hg).1
            go_wp2_with (first | (refine Great.wpList_runTo rfl _ rfl _ _ (run_exec_build 57 _ rfl (ints .i16 zero64) (by kernel_rfl)) ?_; simp only [Act.put, List.setIfInBounds_toArray, List.set_cons_zero, List.set_cons_succ]) | (refine Great.wpList_runTo rfl _ rfl _ _ (run_exec_slice1 _ rfl zero64 rfl hz64) ?_) | (refine wpList_append_ar _ rfl _ _ 59 rfl (C + 2) 57 _ _ 64 128 rfl rfl rfl rfl rfl rfl _ L.length _ rfl hRw _ 1 _ rfl hmid (bcells_one _) (by simp only [maxLen]; omega) (by omega) (by omega) (fun v' w4 hR4 hg4 hat => ?_); obtain ⟨bz, cz, rfl⟩ := hR4.len; have hg5 : (W2.alloc (.cells (ints .i16 zero64) 57)).grownBy w4 (Value.slice bv L.length cv).ownBlock := hg4; have b74 := hb7.grown hg5 (fun e => by have := hne _ e.symm; omega); have q6 := b74.cell 6; have f6 := b74.free 6))
            have hnr : ∀ g, g < C + 2 → some g ≠ (Value.slice bv L.length cv).ownBlock := fun g hg e => by have := hne _ e.symm; omega
            have hlen : (L ++ [zero64]).length = L.length + 1 := by simp
            refine ⟨⟨z + 1, .slice bz (L.length + 1) cz, hzl, by go_num, ?_⟩, by simp [intOf]; omega⟩
            rw [HSEL.out]
            refine ⟨b74.set 6 _, (hPa.bp.grown hg5 (hnr _ (by omega))).other _ _ (by show C + 1 ≠ C; omega), ?_, ?_⟩
            · rw [hlen, bcells_append]
              exact hR4.other _ _ (fun g hg => by have := (hR4.lt g hg).1; show g ≠ C; omega)
            · exact (Below.grown hPa.hB (by omega) hg5 (fun g e => by have := hne g e; omega)).setCell (p := ⟨C, 6, none⟩) (by show C ≤ C; omega) _
          · have hin : Pl.insI a b h d c z = false := by simpa using hin
            rw [hin]
            rw [if_neg (by rw [hin]; decide)] at hsel
            have HSEL := Lib.hid hsel
            clear hsel
            have hbx := Pl.blk_get hzl
            have hb64 := Pl.blk_len hx64 z
            generalize Pl.blk bs z = y at *
            generalize Pl.pnt bs (Pl.insI a b h d c) zero64 z = L at *
            obtain ⟨bv, cv, rfl⟩ := hS.row.len
            obtain ⟨ad, cp, hsl, -, -⟩ := (HAB.out _ hS.hB).some (by omega)
            simp only [Value.slice.injEq] at hsl
            obtain ⟨rfl, -, rfl⟩ := hsl
            go_upto_region 19 with fail
            have hGm : ∀ V V', RS C v0 v1 v2 v3 c r c r (.slice bv L.length cv) (.slice (some ad) bs.length uc) L Wb V → Below V.heap.size V V' → RS C v0 v1 v2 v3 c r c r (.slice bv L.length cv) (.slice (some ad) bs.length uc) L Wb V' := fun V V' h hb => h.below hb
            refine wp_region_mono [0, 1, 2, 3, 4, 5, 6, 7, 8] [9, 10, 11, 12] (RS C v0 v1 v2 v3 c r c r (.slice bv L.length cv) (.slice (some ad) bs.length uc) L Wb)
              (fun | 8 => some (sSlice 1 (ints .i16 y) 57) | _ => none) (fun _ => []) (by kernel_rfl) (by kernel_rfl) (hS.below (Below.refl _ _).drew) ?_ ?_
            · intro i s hs
              match i with
              | 8 => cases hs; exact fun _ _ => sSlice_mono _ _ _ _ _
            clear hS
            simp only [pick, List.getD_cons_succ, List.getD_cons_zero, List.zip_cons_cons, List.zip_nil_right]
            (repeat (first | (refine mono_skip (by rfl) ?_; simp only [Act.put, List.setIfInBounds_toArray, List.set_cons_zero, List.set_cons_succ]) | (refine mono_pure (v := ?_) (by rfl) rfl ?_ ?_; rotate_left; (intro wS hS; go_simp; try with_reducible rfl); simp only [Act.put, List.setIfInBounds_toArray, List.set_cons_zero, List.set_cons_succ])))
            refine mono_pure (v := .slice bv L.length cv) (by rfl) rfl (fun w1 hG => by have cy := hG.bC.cell 6; go_simp; try with_reducible rfl) ?_
            simp only [Act.put, List.setIfInBounds_toArray, List.set_cons_zero, List.set_cons_succ]
            (repeat (first | (refine mono_skip (by rfl) ?_; simp only [Act.put, List.setIfInBounds_toArray, List.set_cons_zero, List.set_cons_succ]) | (refine mono_pure (v := ?_) (by rfl) rfl ?_ ?_; rotate_left; (intro wS hS; go_simp; try with_reducible rfl); simp only [Act.put, List.setIfInBounds_toArray, List.set_cons_zero, List.set_cons_succ])))
            refine mono_pure (v := .slice (some ad) bs.length uc) (by rfl) rfl (fun w1 hG => by have cy := hG.bp.cell 2; go_simp; try with_reducible rfl) ?_
            simp only [Act.put, List.setIfInBounds_toArray, List.set_cons_zero, List.set_cons_succ]
            (repeat (first | (refine mono_skip (by rfl) ?_; simp only [Act.put, List.setIfInBounds_toArray, List.set_cons_zero, List.set_cons_succ]) | (refine mono_pure (v := ?_) (by rfl) rfl ?_ ?_; rotate_left; (intro wS hS; go_simp; try with_reducible rfl); simp only [Act.put, List.setIfInBounds_toArray, List.set_cons_zero, List.set_cons_succ])))
            refine mono_pure (by rfl) rfl (fun w1 hG => ar_loadx (HAB.out _ hG.hB) hx64 z hzl y hbx _ rfl rfl) ?_
            simp only [Act.put, List.setIfInBounds_toArray, List.set_cons_zero, List.set_cons_succ]
            refine mono_slice 1 (ints .i16 y) 57 (by rfl) rfl hGm (fun wS => run_exec_slice1 _ rfl y rfl hb64) (fun gs => ?_)
            simp only [Act.put, List.setIfInBounds_toArray, List.set_cons_zero, List.set_cons_succ]
            refine mono_nil ?_
            rintro w1 hP ⟨hbs, I, hI1, hI2⟩
            obtain ⟨i1, i2, i3, ⟨g, hg, i4, i5, i6⟩⟩ := hI1 8 _ (upd_self _ _ _)
            obtain rfl : gs = g := by simpa using hg
            have hmid := i6.ar1b hb64
            have hc1' : C + 1 ≤ w1.heap.size := hP.bC.lt
            have hc2' : C + 2 ≤ w1.heap.size := hP.bp.lt
            have hRw := hP.row
            have hb7 := hP.bC
            have hne : ∀ g, (Value.slice bv L.length cv).ownBlock = some g → C + 2 ≤ g := fun g hg => (hRw.lt g hg).1
            clear hI1 hI2 i1 i2 i3 i4 i5 hg hbs hGm
            go_wp2_with (refine wpList_append_ar _ rfl _ _ 59 rfl (C + 2) 57 _ _ 64 128 rfl rfl rfl rfl rfl rfl _ L.length _ rfl hRw _ 1 _ rfl hmid (bcells_one _) (by simp only [maxLen]; omega) (by omega) (by omega) (fun v' w4 hR4 hg4 hat => ?_); obtain ⟨bz, cz, rfl⟩ := hR4.len; have hg5 : w1.grownBy w4 (Value.slice bv L.length cv).ownBlock := hg4; have b74 := hb7.grown hg5 (fun e => by have := hne _ e.symm; omega); have q6 := b74.cell 6; have f6 := b74.free 6)
            have hnr : ∀ g, g < C + 2 → some g ≠ (Value.slice bv L.length cv).ownBlock := fun g hg e => by have := hne _ e.symm; omega
            have hlen : (L ++ [y]).length = L.length + 1 := by simp
            refine ⟨⟨z + 1, .slice bz (L.length + 1) cz, hzl, by go_num, ?_⟩, by simp [intOf]; omega⟩
            rw [HSEL.out]
            refine ⟨b74.set 6 _, (hP.bp.grown hg5 (hnr _ (by omega))).other _ _ (by show C + 1 ≠ C; omega), ?_, ?_⟩
            · rw [hlen, bcells_append]
              exact hR4.other _ _ (fun g hg => by have := (hR4.lt g hg).1; show g ≠ C; omega)
            · exact (Below.grown hP.hB (by omega) hg5 (fun g e => by have := hne g e; omega)).setCell (p := ⟨C, 6, none⟩) (by show C ≤ C; omega) _
        · have tz : decide (z < bs.length) = false := by simpa using hzl
          obtain rfl : z = bs.length := by omega
          go_upto_region 20 with fail
          obtain ⟨bv, cv, rfl⟩ := hS.row.len
          have hO5 := HOB.out _ hS.hB
          obtain ⟨b3, c3, hyl⟩ := hO5.cs.row.len
          obtain rfl := hyl
          have hy20 : ys.length ≤ 20 := by have := congrArg List.length hys; simp at this; omega
          have pn := Pl.pnt_len bs (Pl.insI a b h d c) zero64 bs.length
          have HPN := Lib.hid pn
          have hcap : CompArg.Ok wr ⟨v0, v1, v2, v3, c, r, .slice bv (Pl.pnt bs (Pl.insI a b h d c) zero64 bs.length).length cv, Pl.pnt bs (Pl.insI a b h d c) zero64 bs.length⟩ := by
            obtain ⟨e0, e1, e2, e3⟩ := HV.out
            have hq := redG_ok (un_ok HU.out) HPL.out k hlt
            rw [HGK.out] at hq
            have hk2 := HOK.out
            exact ⟨hS.row.ar, hq.h64, hq.wb, by rw [← e0]; exact hk2.wid, by rw [← e1]; exact hk2.wh, by rw [← e2]; exact hk2.wv, by rw [← e3]; exact hk2.wq, hq.wc, hq.wr⟩
          have HCO := Lib.hid (fun W' (hA : Ar W' 64 (.slice bv (Pl.pnt bs (Pl.insI a b h d c) zero64 bs.length).length cv) (Pl.pnt bs (Pl.insI a b h d c) zero64 bs.length).length (bcells (Pl.pnt bs (Pl.insI a b h d c) zero64 bs.length))) => (CompArg.Ok.mk hA hcap.h64 hcap.wb hcap.wid hcap.wh hcap.wv hcap.wq hcap.wc hcap.wr : CompArg.Ok W' ⟨v0, v1, v2, v3, c, r, .slice bv (Pl.pnt bs (Pl.insI a b h d c) zero64 bs.length).length cv, Pl.pnt bs (Pl.insI a b h d c) zero64 bs.length⟩))
          have hcd : cd (⟨v0, v1, v2, v3, c, r, .slice bv (Pl.pnt bs (Pl.insI a b h d c) zero64 bs.length).length cv, Pl.pnt bs (Pl.insI a b h d c) zero64 bs.length⟩ : CompArg) = cd (setP (x.cs.getD k noComp) (redG x X Y W H k).c (redG x X Y W H k).r (.slice none 0 0) (redG x X Y W H k).l) := by
            obtain ⟨e0, e1, e2, e3⟩ := HV.out
            rw [HGK.out, comp_getD hlt]
            unfold setP cd
            rw [e0, e1, e2, e3]
          have HCD := Lib.hid hcd
          clear hcap hcd pn
          generalize Pl.pnt bs (Pl.insI a b h d c) zero64 bs.length = L at *
          have p2 : wr.cell? ⟨P, 2, none⟩ = some (.slice b3 ys.length c3) := hO5.bP.cell 2
          have hWA : Below wr.heap.size wr (wr.alloc (.cells #[.int .i64 v0, .int .i64 v1, .int .i64 v2, .int .i64 v3, .int .i64 c, .int .i64 r, .slice bv L.length cv] 63)) := (Below.refl _ _).alloc (Nat.le_refl _) _
          have hO6 := hO5.below hWA
          have hR6 := hO6.cs.row
          have hS6 := hS.row.grow hWA
          have hbN := Blk.new wr #[.int .i64 v0, .int .i64 v1, .int .i64 v2, .int .i64 v3, .int .i64 c, .int .i64 r, .slice bv L.length cv] 63
          have hP6 := hO6.bP.lt
          go_wp2_with (first
            | (refine wpList_load_row rfl 63 _ rfl C rfl 63 _ _ _ hS.bC Try.underlying63 rfl (by kernel_rfl) ?_)
            | (refine wpList_append_Row _ rfl _ _ 22 rfl (P + 1) 63 _ _ 7 72 rfl rfl rfl rfl rfl rfl _ ys.length _ rfl hR6 _ 1 1 [.int .i64 v0, .int .i64 v1, .int .i64 v2, .int .i64 v3, .int .i64 c, .int .i64 r, .slice bv L.length cv] rfl (by omega) rfl hbN.cells (by intro u hu; simp at hu; rcases hu with rfl | rfl | rfl | rfl | rfl | rfl | rfl <;> rfl) (by simp only [maxLen]; omega) (by omega) (by omega) (fun v' w8 hR8 hg8 hat => ?_); obtain ⟨bz, cz, rfl⟩ := hR8.len; have bP8 := hO6.bP.grown hg8 (fun e => hR6.typed hO6.bP (by decide) P e.symm rfl); have p8 := bP8.cell 2; have f8 := bP8.free 2))
          refine ⟨⟨k + 1, .slice bz (ys.length + 1) cz, ys ++ [⟨v0, v1, v2, v3, c, r, .slice bv L.length cv, L⟩], hlt, by go_num, ?_, ?_⟩, by simp [intOf]; omega⟩
          · rw [List.map_append, List.range_succ, List.map_append, hys]
            simp only [List.map_cons, List.map_nil]
            rw [HCD.out]
          · have hR9 : Row w8 (P + 1) 63 7 (.slice bz (ys.length + 1) cz) (ys.length + 1) ((ys.map CompArg.cells).flatten ++ (⟨v0, v1, v2, v3, c, r, .slice bv L.length cv, L⟩ : CompArg).cells) := hR8
            exact OC.push HI.out hO6 hg8 hR9 (hS6.down (by omega)) HCO.out
    · have tl : decide (k < x.cs.length) = false := by simpa using hlt
      obtain rfl : k = x.cs.length := by omega
      have q2' := q2
      have HYL := Lib.hid (show ys.length = x.cs.length by have := congrArg List.length hys; simpa using this)
      obtain ⟨b3, c3, rfl⟩ := hO.cs.row.len
      have hpq : (#[.int .i64 x.w, .int .i64 x.h, .slice b3 ys.length c3, x.qu, x.tu] : Array Value).all (·.oneCell') = true := by rw [HQU.out, HTU.out]; simp [Value.oneCell']
      go_wp2_with (first
        | (refine wpList_load_row rfl 26 _ rfl P rfl 26 _ _ _ hO.bP Try.underlying26 rfl (by kernel_rfl) ?_)
        | (refine wpList_store_row rfl 26 _ _ rfl (N + 2) _ rfl rfl 26 _ hO.bQ (by kernel_rfl) rfl hpq ?_))
      refine bodyPost_ret (results_row_tmp rfl _ _ (N + 2) 26 _ _ rfl (hO.bQ.row _) Try.underlying26 rfl (by kernel_rfl)) rfl ?_
      have hBF : Below N w (wr.setRow (N + 2) #[.int .i64 x.w, .int .i64 x.h, .slice b3 ys.length c3, x.qu, x.tu]) := by have := hO.l.l.hB; rw [← HN.out] at this; exact Below.setRow this (by omega) _
      have hyl := HYL.out
      have hix := HI.out.below (by rw [← HN.out]; exact hBF)
      have hlo := hO.lo
      have hcs9 : Cs (P + 1) (.slice b3 ys.length c3) ys (wr.setRow (N + 2) #[.int .i64 x.w, .int .i64 x.h, .slice b3 ys.length c3, x.qu, x.tu]) :=
        ⟨hO.cs.row.same fun g e => setRow_other _ _ _ _ (by have := (hO.cs.row.lt g e).1; omega), fun c hc => ⟨(hO.cs.pl c hc).1.same fun g e => setRow_other _ _ _ _ (by have := ((hO.cs.pl c hc).1.lt g e).1; omega), (hO.cs.pl c hc).2⟩⟩
      refine ⟨⟨⟨x.w, x.h, .slice b3 ys.length c3, x.qu, x.tu, ys, x.qs, x.ts⟩, rfl, ?_, ⟨rfl, hix.ww, hix.wh, hcs9.comps (by omega), hix.qs, hix.ts⟩, ?_⟩, hBF⟩
      · rw [HRD.out]
        refine ⟨rfl, rfl, ?_, rfl, rfl⟩
        show ys.map cd = (putAll x (redG x X Y W H)).cs.map cd
        rw [hys]
        unfold putAll
        simp only [List.map_map]
        rfl
      · refine ⟨by show ys.length ≤ 20; omega, hf.q20, hf.t100, fun c hc => ?_, hf.t140⟩
        obtain ⟨i, hi, rfl⟩ := List.getElem_of_mem hc
        have hi2 : i < ys.length := hi
        have he := congrArg (fun l => l[i]?) hys
        simp only [List.getElem?_map, List.getElem?_eq_getElem hi2, Option.map_some] at he
        have hir : i < (List.range x.cs.length).length := by simp; omega
        rw [List.getElem?_eq_getElem hir, Option.map_some, List.getElem_range] at he
        have hbs : (ys[i]'hi2).bs = (redG x X Y W H i).l := congrArg (fun t => t.2.2.2) (Option.some.inj he)
        have hq := redG_ok (un_ok HU.out) HPL.out i (by omega)
        show (ys[i]'hi2).bs.length ≤ 20000
        rw [hbs]
        exact hq.few
end Go.Proofs.Ytgmhhocpdfdplaa
/- The reference's Crop. -/
namespace Go.Proofs.Ytgmhhocpdfdplaa
open Go.RowKit
set_option maxRecDepth 100000
set_option maxHeartbeats 16000000
theorem unE_wi {x : ImgArg} {X Y W H : Int} (h : wiE x X Y W H ≠ 0) : unE x X Y W H = wiE x X Y W H ∧ cropD x X Y W H = zeroI := by
  have hu : unE x X Y W H = wiE x X Y W H := by unfold unE; rw [if_neg h]
  exact ⟨hu, if_neg (by rw [hu]; exact h)⟩
theorem unE_nb {x : ImgArg} {X Y W H : Int} (h : wiE x X Y W H = 0) (hb : ¬ begB x X Y = true) : unE x X Y W H = 13 ∧ cropD x X Y W H = zeroI := by
  have hr : unE x X Y W H = 13 := by rw [unE_begW h, if_neg hb]
  exact ⟨hr, if_neg (by rw [hr]; decide)⟩
theorem unE_b {x : ImgArg} {X Y W H : Int} (h : wiE x X Y W H = 0) (hb : begB x X Y = true) : unE x X Y W H = 0 ∧ cropD x X Y W H = { putAll x (cropG x X Y W H) with w := W, h := H } := by
  have hr : unE x X Y W H = 0 := by rw [unE_begW h, if_pos hb]
  exact ⟨hr, if_pos hr⟩
theorem RFr.part {x : ImgArg} (hR : RightI x) {u gv : Value} {V : World} (h : RFr x u gv V) {i : Nat} (hi : i < x.cs.length) : ∃ a cap, u = .slice (some a) (qsP x).length cap ∧ V.cell? (a.add (i * 2)) = some (.int .i64 (pH x i)) ∧ V.cell? ⟨(a.add (i * 2)).block, (a.add (i * 2)).off + 1, none⟩ = some (.int .i64 (pV x i)) := by
  have hql : i < (qsP x).length := by rw [qsP_len]; exact hi
  have hq4 := hR.ok.n2
  have hpe : (qsP x)[i]'hql = (pH x i, pV x i) := by unfold pH pV hA vA; simp [List.getD_eq_getElem?_getD, hql]
  have hel : Elems V 2 u ((qsP x).map partC) := Ar.elems h.pr.ar (fun c hc => by obtain ⟨p, _, rfl⟩ := List.mem_map.1 hc; rfl) (by simp) (by simp only [maxLen]; omega)
  obtain ⟨a, cap', he, c0, cj⟩ := hel.get (by decide) (i := i) (by simpa using hql)
  rw [getD_map' _ _ _ _ hql, hpe] at c0 cj
  rw [List.length_map] at he
  exact ⟨a, cap', he, c0, cj 1 (by decide) (by decide)⟩
theorem tou_col {x : ImgArg} {X Y W H : Int} (hu : unE x X Y W H = 0) {i : Nat} (hi : i < x.cs.length) {c r a b h d : Nat} (n : CutN x i hi X Y W H c r a b h d) (q : Nat) :
    touB x X Y W H i (a : Int) (q : Int) = decide (b ≤ q ∧ q < b + d) := by
  rw [touB_in hu hi, n.ea, n.eb, n.eh, n.ed, decide_eq_decide]
  have := n.h1
  omega
theorem ref_crop (x : ImgArg) (hf : FewOk x) (X Y W H : Int) (hW : (Lit.int .i64 W).wf = true) (hH : (Lit.int .i64 H).wf = true) (w : World) (hI : IsImg w x.val x) :
    Calls Try.prog 40 #[x.val, .agg #[.int .i64 X, .int .i64 Y, .int .i64 W, .int .i64 H]] w fun r w' => RefRes (cropD x X Y W H) (unE x X Y W H) r w' ∧ Below w.heap.size w w' := by
  have HI := Lib.hid hI
  have hL := LR.begin hI X Y W H 68
  obtain ⟨N, hN⟩ : ∃ N, N = w.heap.size := ⟨_, rfl⟩
  rw [← hN] at hL
  have HN := Lib.hid hN
  have hc20 := hf.c20
  have hwi := fun V h => ref_within19 x hf X Y W H V h
  have HB1 := Lib.hid (fun h => unE_wi (x := x) (X := X) (Y := Y) (W := W) (H := H) h)
  have HB2 := Lib.hid (fun h => unE_nb (x := x) (X := X) (Y := Y) (W := W) (H := H) h)
  have HB3 := Lib.hid (fun h => unE_b (x := x) (X := X) (Y := Y) (W := W) (H := H) h)
  have HWZ := Lib.hid (fun h => wiE_zero (x := x) (X := X) (Y := Y) (W := W) (H := H) h)
  generalize wiE x X Y W H = G at *
  have HUE := Lib.hid (show ∃ E, unE x X Y W H = E from ⟨_, rfl⟩)
  generalize hRE : unE x X Y W H = RE at *
  have HRE := Lib.hid hRE
  clear hRE
  generalize cropD x X Y W H = RD at *
  rw [← hN]
  clear hN hI
  unfold ImgArg.val at hwi ⊢
  go_enter Try.func40, Try.ntmps40
  go_upto_region 1 with fail
  refine wp_world (fun V => LR N x X Y W H 68 w V ∧ Blk V (N + 2) #[.int .i64 0, .int .i64 0, .slice none 0 0, .slice none 0 0, .slice none 0 0] 26) ⟨hL.below ((Below.refl _ _).alloc (Nat.le_refl _) _), Blk.new' _ _ _ (by rw [HN.out]; simp)⟩ ?_
  rw [← HN.out]
  clear hL
  rintro V0 ⟨hL, bQ⟩
  go_upto_region 2 with (first
    | (refine wpList_load_row rfl 26 _ rfl N rfl 26 _ _ _ hL.l.bN Try.underlying26 rfl (by kernel_rfl) ?_) | (refine wpList_load_row rfl 68 _ rfl (N + 1) rfl 68 _ _ _ hL.bR Try.underlying68 rfl (by kernel_rfl) ?_)
    | (go_at_call 36; refine (hwi _ hL.l.img).mono ?_; rintro e w4 ⟨rfl, hb4⟩; replace hL := hL.below hb4; replace bQ := bQ.below hb4 bQ.lt))
  clear hwi
  by_cases hG : G = 0
  case neg =>
    obtain ⟨rfl, rfl⟩ := HB1.out hG
    have t1 : (RE != 0) = true := by simpa using hG
    have hNN := hL.l.hM
    clear HB1 HB2 HB3 HWZ hG
    go_wp2_with (refine wpList_store_row rfl 26 _ _ rfl (N + 2) _ rfl rfl 26 _ bQ (by kernel_rfl) rfl (by simp [Value.oneCell']) ?_)
    refine bodyPost_ret (results_row_tmp rfl _ _ (N + 2) 26 _ _ rfl (bQ.row _) Try.underlying26 rfl (by kernel_rfl)) rfl ?_
    exact ⟨⟨zeroI, rfl, SameD.refl _, zeroI_img _, zeroI_few⟩, (by have := hL.l.hB; rw [← HN.out] at this; exact Below.setRow this (by omega) _)⟩
  subst hG
  have hb2 := HB2.out rfl
  have hb3 := HB3.out rfl
  have hwz := HWZ.out rfl
  have HB2' := Lib.hid hb2; have HB3' := Lib.hid hb3
  clear HB1 HB2 HB3 HWZ hb2 hb3
  obtain ⟨hie, ⟨x1, x2, x3, x4⟩, y1, y2, y3, y4⟩ := hwz
  have hR := right_of_imgE hie
  obtain ⟨n1, n2, n3, n4, n5, n6⟩ := hR.nums
  have hfr := fun V hI => ref_frame19 x hR V hI hc20
  have HBG := Lib.hid (fun u gv V hI => ref_begins x hR u gv X Y W H ⟨x1, by omega⟩ ⟨y1, by omega⟩ V hI)
  have HY1 := Lib.hid y1
  have HY2 := Lib.hid (show Y ≤ 16384 by omega)
  have HTC := Lib.hid (fun u gv k hk row col hr hc V hI => ref_touched x hR u gv X Y W H ⟨x1, by omega⟩ ⟨y1, by omega⟩ ⟨by omega, by omega⟩ ⟨by omega, by omega⟩ k hk row col hr hc V hI)
  clear x1 x2 x3 x4 y1 y2 y3 y4 n1 n2 n3 n4 n5 n6 hie
  unfold ImgArg.val at hfr
  go_upto_region 5 with (first
    | (refine wpList_load_row rfl 26 _ rfl N rfl 26 _ _ _ hL.l.bN Try.underlying26 rfl (by kernel_rfl) ?_) | (refine wpList_load_row rfl 68 _ rfl (N + 1) rfl 68 _ _ _ hL.bR Try.underlying68 rfl (by kernel_rfl) ?_)
    | (go_at_call 25; refine (hfr _ hL.l.img).mono ?_; rintro e w5 ⟨⟨u, gv, rfl, hF⟩, hb5⟩; replace hL := hL.below hb5; replace bQ := bQ.below hb5 bQ.lt; have hone : (frV x u gv).all (·.oneCell') = true := (by obtain ⟨_, _, h1⟩ := hF.pr.len; obtain ⟨_, _, _, h2⟩ := hF.gr; rw [h1, h2]; simp [frV, Value.oneCell']); obtain ⟨F, hF0⟩ : ∃ F, F = w5.heap.size := ⟨_, rfl⟩; have HF := Lib.hid hF0; clear hF0)
    | (refine wpList_store_row rfl 44 _ _ rfl F _ (by rw [HF.out]; rfl) rfl 44 _ (Blk.new' _ _ _ HF.out) (by kernel_rfl) rfl hone ?_; simp only [Act.put]))
  have hbe : Below w5.heap.size w5 ((w5.alloc (.cells #[.int .i64 0, .int .i64 0, .int .i64 0, .int .i64 0, .slice none 0 0, .slice none 0 0] 44)).setRow F (frV x u gv)) := Below.setRow ((Below.refl _ _).alloc (Nat.le_refl _) _) (Nat.le_of_eq HF.out.symm) _
  have hNF : N + 2 < F := by rw [HF.out]; exact bQ.lt
  have HNF := Lib.hid hNF
  refine wp_world (fun V => LR N x X Y W H 68 w V ∧ Blk V (N + 2) #[.int .i64 0, .int .i64 0, .slice none 0 0, .slice none 0 0, .slice none 0 0] 26 ∧ Blk V F (frV x u gv) 44 ∧ RFr x u gv V) ⟨hL.below hbe, bQ.below hbe bQ.lt, (Blk.new' _ _ _ HF.out).row _, hF.below hbe⟩ ?_
  rw [← HF.out]
  clear hbe hL bQ hF HF hb5 hfr hone hNF
  rintro V2 ⟨hL, bQ, bF, hF⟩
  have hbg := HBG.out u gv
  have hb2 := HB2'.out; have hb3 := HB3'.out
  generalize begB x X Y = B at *
  have HB2 := Lib.hid hb2; have HB3 := Lib.hid hb3
  clear HB2' HB3' hb2 hb3 HBG
  unfold frV at hbg
  have hNN := hL.l.hM
  cases B with
  | false =>
    obtain ⟨rfl, rfl⟩ := HB2.out (by decide)
    clear HB2 HB3 HTC
    go_wp2_with (first
      | (refine wpList_load_row rfl 26 _ rfl N rfl 26 _ _ _ hL.l.bN Try.underlying26 rfl (by kernel_rfl) ?_) | (refine wpList_load_row rfl 68 _ rfl (N + 1) rfl 68 _ _ _ hL.bR Try.underlying68 rfl (by kernel_rfl) ?_)
      | (refine wpList_load_row rfl 44 _ rfl F rfl 44 _ _ _ bF Try.underlying44 rfl (by kernel_rfl) ?_)
      | (go_at_call 37; refine (hbg _ hF).mono ?_; rintro e w6 ⟨rfl, hb6⟩; replace hL := hL.below hb6; replace bQ := bQ.below hb6 bQ.lt; replace bF := bF.below hb6 bF.lt; replace hF := hF.below hb6; have f0 : w6.cell? ⟨F, 0, none⟩ = some (.int .i64 (uwI x)) := bF.cell 0; have f1 : w6.cell? ⟨F, 1, none⟩ = some (.int .i64 (uhI x)) := bF.cell 1; have f2 : w6.cell? ⟨F, 2, none⟩ = some (.int .i64 (acI x)) := bF.cell 2; have f3 : w6.cell? ⟨F, 3, none⟩ = some (.int .i64 (dnI x)) := bF.cell 3; have f4 : w6.cell? ⟨F, 4, none⟩ = some (u) := bF.cell 4; have f5 : w6.cell? ⟨F, 5, none⟩ = some (gv) := bF.cell 5; have a0 := hL.l.bN.cell 0; have a1 := hL.l.bN.cell 1; have a2 := hL.l.bN.cell 2; have a3 := hL.l.bN.cell 3; have a4 := hL.l.bN.cell 4; have r0 := hL.bR.cell 0; have r1 := hL.bR.cell 1; have r2 := hL.bR.cell 2; have r3 := hL.bR.cell 3)
      | (refine wpList_store_row rfl 26 _ _ rfl (N + 2) _ rfl rfl 26 _ bQ (by kernel_rfl) rfl (by simp [Value.oneCell']) ?_))
    refine bodyPost_ret (results_row_tmp rfl _ _ (N + 2) 26 _ _ rfl (bQ.row _) Try.underlying26 rfl (by kernel_rfl)) rfl ?_
    exact ⟨⟨zeroI, rfl, SameD.refl _, zeroI_img _, zeroI_few⟩, (by have := hL.l.hB; rw [← HN.out] at this; exact Below.setRow this (by omega) _)⟩
  | true =>
  obtain ⟨rfl, hRD⟩ := HB3.out rfl
  have hU := HRE.out
  have HU := Lib.hid hU
  have HRD := Lib.hid hRD
  clear HB2 HB3 hU hRD
  go_upto_region 7 with (first
    | (refine wpList_load_row rfl 26 _ rfl N rfl 26 _ _ _ hL.l.bN Try.underlying26 rfl (by kernel_rfl) ?_) | (refine wpList_load_row rfl 68 _ rfl (N + 1) rfl 68 _ _ _ hL.bR Try.underlying68 rfl (by kernel_rfl) ?_)
    | (refine wpList_load_row rfl 44 _ rfl F rfl 44 _ _ _ bF Try.underlying44 rfl (by kernel_rfl) ?_)
    | (go_at_call 37; refine (hbg _ hF).mono ?_; rintro e w6 ⟨rfl, hb6⟩; replace hL := hL.below hb6; replace bQ := bQ.below hb6 bQ.lt; replace bF := bF.below hb6 bF.lt; replace hF := hF.below hb6; have f0 : w6.cell? ⟨F, 0, none⟩ = some (.int .i64 (uwI x)) := bF.cell 0; have f1 : w6.cell? ⟨F, 1, none⟩ = some (.int .i64 (uhI x)) := bF.cell 1; have f2 : w6.cell? ⟨F, 2, none⟩ = some (.int .i64 (acI x)) := bF.cell 2; have f3 : w6.cell? ⟨F, 3, none⟩ = some (.int .i64 (dnI x)) := bF.cell 3; have f4 : w6.cell? ⟨F, 4, none⟩ = some (u) := bF.cell 4; have f5 : w6.cell? ⟨F, 5, none⟩ = some (gv) := bF.cell 5; have a0 := hL.l.bN.cell 0; have a1 := hL.l.bN.cell 1; have a2 := hL.l.bN.cell 2; have a3 := hL.l.bN.cell 3; have a4 := hL.l.bN.cell 4; have r0 := hL.bR.cell 0; have r1 := hL.bR.cell 1; have r2 := hL.bR.cell 2; have r3 := hL.bR.cell 3))
  clear a0 a1 a2 a3 a4 f0 f1 f2 f3 f4 f5 hbg
  obtain ⟨qb, qcap, hqu⟩ := HI.out.qs.len
  obtain ⟨tb, tcap, htu⟩ := HI.out.ts.len
  have a3 : w6.cell? ⟨N, 3, none⟩ = some (.slice qb x.qs.length qcap) := by rw [← hqu]; exact hL.l.bN.cell 3
  have a4 : w6.cell? ⟨N, 4, none⟩ = some (.slice tb x.ts.length tcap) := by rw [← htu]; exact hL.l.bN.cell 4
  have HQU := Lib.hid hqu; have HTU := Lib.hid htu
  clear hqu htu
  obtain ⟨P, hP⟩ : ∃ P, P = w6.heap.size := ⟨_, rfl⟩
  have HP := Lib.hid hP
  clear hP
  go_upto_region 8 with (refine wpList_store_row rfl 26 _ _ rfl P _ (by rw [HP.out]; rfl) rfl 26 _ (Blk.new' _ _ _ HP.out) (by kernel_rfl) rfl (by simp [Value.oneCell']) ?_; simp only [Act.put])
  have hPF : F < P := by rw [HP.out]; exact bF.lt
  have hbe : Below w6.heap.size w6 ((w6.alloc (.cells #[.int .i64 0, .int .i64 0, .slice none 0 0, .slice none 0 0, .slice none 0 0] 26)).setRow P #[.int .i64 W, .int .i64 H, .slice none 0 0, .slice qb x.qs.length qcap, .slice tb x.ts.length tcap]) := Below.setRow ((Below.refl _ _).alloc (Nat.le_refl _) _) (Nat.le_of_eq HP.out.symm) _
  refine wp_world (OC N F P x X Y W H u gv W H (.slice none 0 0) [] w) ⟨hL.below hbe, bQ.below hbe bQ.lt, bF.below hbe bF.lt, hF.below hbe, (by rw [HQU.out, HTU.out]; exact (Blk.new' _ _ _ HP.out).row _), Cs.nil _ _, HNF.out, hPF⟩ ?_
  rw [← HP.out]
  clear hbe hL bQ bF hF a3 a4 r0 r1 r2 r3 hb6 hPF
  intro V3 hO
  have HPL := Lib.hid HI.out.planes
  obtain ⟨cb, ccap, hcu⟩ := HI.out.cs.len
  have HCU := Lib.hid hcu
  clear hcu
  go_wp2
  go_loopw [10] (fun iv wr => ∃ (k : Nat) (o : Value) (ys : List CompArg), k ≤ x.cs.length ∧ iv = .int .i64 k ∧ ys.map cd = ((List.range k).map fun i => cd (setP (x.cs.getD i noComp) (cropG x X Y W H i).c (cropG x X Y W H i).r (.slice none 0 0) (cropG x X Y W H i).l)) ∧ OC N F P x X Y W H u gv W H o ys w wr) (fun iv _ => x.cs.length - (intOf iv).toNat)
  case atStart => exact ⟨0, _, [], Nat.zero_le _, rfl, rfl, hO⟩
  case round =>
    clear hO
    obtain ⟨k, o, ys, hk, rfl, hys, hO⟩ := hrel
    have q2 : wr.cell? ⟨N, 2, none⟩ = some (.slice cb x.cs.length ccap) := by rw [← HCU.out]; exact hO.l.l.bN.cell 2
    by_cases hlt : k < x.cs.length
    · have tl : decide (k < x.cs.length) = true := by simpa using hlt
      have hcs : IsComps wr (.slice cb x.cs.length ccap) x.cs := by have := hO.l.l.img.cs; rwa [HCU.out] at this
      obtain ⟨aa, rfl, c0, c1, c2, c3, c4, c5, c6⟩ := hcs.at hlt
      have hAr := (hcs.ok _ (List.getElem_mem hlt)).ar
      have hok := hcs.ok _ (List.getElem_mem hlt)
      have HOK := Lib.hid hok
      obtain ⟨c, r, a, b, h, d, n⟩ := (un_ok HU.out).nats hlt
      have hti := tou_ins HU.out hlt n
      have HTI := Lib.hid hti
      have hG : cropG x X Y W H k = ⟨d, h, Pl.win (x.cs[k]'hlt).bs c a b d h⟩ := by
        unfold cropG
        rw [comp_getD hlt, n.ec, n.ea, n.eb, n.eh, n.ed]
        simp only [Int.toNat_natCast]
      have HGK := Lib.hid hG
      have HNN := Lib.hid n
      have hnl := n.n
      have HTC2 := Lib.hid (fun q => tou_col HU.out hlt n q)
      rw [n.ec] at c4
      rw [n.er] at c5
      have j0 : (0 : Int) ≤ (k : Int) := by omega
      have j1 : (k : Int) < (x.cs.length : Int) := by omega
      have hx64 := hok.h64
      have hbl : (x.cs[k]'hlt).bs.length ≤ 16384 := by rw [n.n]; exact n.cr
      clear hcs hok hti hG n
      generalize hgb : (x.cs[k]'hlt).bs = bs at *
      have HNL := Lib.hid hnl
      clear hnl
      generalize hv0 : (x.cs[k]'hlt).id = v0 at *
      generalize hv1 : (x.cs[k]'hlt).h = v1 at *
      generalize hv2 : (x.cs[k]'hlt).v = v2 at *
      generalize hv3 : (x.cs[k]'hlt).q = v3 at *
      generalize (x.cs[k]'hlt).u = u1 at *
      obtain ⟨ub, uc, rfl, -, -⟩ := hAr.len
      obtain ⟨C, hC⟩ : ∃ C, C = wr.heap.size := ⟨_, rfl⟩
      have HC := Lib.hid hC
      clear hC
      go_upto_region 14 with fail
      have HV := Lib.hid (And.intro hv0 (And.intro hv1 (And.intro hv2 hv3)))
      have HGB := Lib.hid hgb
      clear hv0 hv1 hv2 hv3 hgb q2 tl c0 c1 c2 c3 c4 c5 c6
      have hbe : Below C wr ((wr.alloc (.cells #[.int .i64 v0, .int .i64 v1, .int .i64 v2, .int .i64 v3, .int .i64 0, .int .i64 0, .slice none 0 0] 63)).alloc (.cells #[.int .i64 c, .int .i64 r, .slice ub bs.length uc] 61)) := by rw [HC.out]; exact ((Below.refl _ _).alloc (Nat.le_refl _) _).alloc (by simp) _
      have hS0 : RS C v0 v1 v2 v3 c r 0 0 (.slice none 0 0) (.slice ub bs.length uc) [] wr ((wr.alloc (.cells #[.int .i64 v0, .int .i64 v1, .int .i64 v2, .int .i64 v3, .int .i64 0, .int .i64 0, .slice none 0 0] 63)).alloc (.cells #[.int .i64 c, .int .i64 r, .slice ub bs.length uc] 61)) := ⟨(Blk.new' _ _ _ HC.out).alloc _, Blk.new' _ _ _ (by rw [HC.out]; simp), by simpa [bcells] using Row.nil _ _ _ _, hbe⟩
      refine wp_world (RS C v0 v1 v2 v3 c r 0 0 (.slice none 0 0) (.slice ub bs.length uc) [] wr) hS0 ?_
      rw [← HC.out]
      clear hbe hS0
      intro V4 hS
      obtain ⟨Wb, rfl⟩ : ∃ W, W = wr := ⟨_, rfl⟩
      have HOB := Lib.hid (fun V (hS : Below C Wb V) => hO.below (by rw [← HC.out]; exact hS))
      have HAB := Lib.hid (fun V (hS : Below C Wb V) => hAr.below (by rw [← HC.out]; exact hS))
      have hCP : P < C := by rw [HC.out]; exact hO.bP.lt
      have htc := HTC.out u gv k hlt
      have hc16 := HNN.out.c1
      have hr16 := HNN.out.r1
      have hc1 : 1 ≤ c := by have := HNN.out.bd; have := HNN.out.d1; omega
      clear hAr
      go_wp2
      go_loopw [13] (fun iv V => ∃ (z : Nat) (v : Value), z ≤ bs.length ∧ iv = .int .i64 z ∧ RS C v0 v1 v2 v3 c r 0 0 v (.slice ub bs.length uc) (Pl.sel bs (Pl.insI a b h d c) z) Wb V) (fun iv _ => bs.length - (intOf iv).toNat)
      case atStart => exact ⟨0, _, Nat.zero_le _, rfl, hS⟩
      case round =>
        clear hS
        obtain ⟨z, v, hz, rfl, hS⟩ := hrel
        have p2 := hS.bp.cell 2
        by_cases hzl : z < bs.length
        · have tz : decide (z < bs.length) = true := by simpa using hzl
          have z1 : (0 : Int) ≤ (z : Int) := by omega
          have z2 : (z : Int) ≤ 16384 := by omega
          have z3 : (z : Int) < (bs.length : Int) := by omega
          go_upto_region 17 with fail
          clear p2 tz
          have a1 : 0 ≤ (z : Int) / (c : Int) := Int.ediv_nonneg z1 (by omega)
          have a2 : (z : Int) / (c : Int) ≤ z := Int.ediv_le_self _ z1
          have a3 : 0 ≤ (z : Int) % (c : Int) := Int.emod_nonneg _ (by omega)
          have a4 : (z : Int) % (c : Int) < c := Int.emod_lt_of_pos _ (by omega)
          have htz := htc ((z : Int) / (c : Int)) ((z : Int) % (c : Int)) ⟨a1, by omega⟩ ⟨a3, by omega⟩
          rw [HTI.out z] at htz
          have hcN : ¬ c = 0 := by omega
          have hq1 : IntKind.i64.wrap ((z : Int) / (c : Int)) = (z : Int) / (c : Int) := IntWalk.i64_in _ (by omega)
          refine wp_region_det (RS C v0 v1 v2 v3 c r 0 0 v (.slice ub bs.length uc) (Pl.sel bs (Pl.insI a b h d c) z) Wb) (by kernel_rfl) (by kernel_rfl) (hS.below (Below.refl _ _).drew) ?_
          clear hS a1 a2 a3 a4
          refine det_load_row (by rfl) 44 _ rfl F rfl 44 _ _ (fun w1 hS => (HOB.out w1 hS.hB).bF) Try.underlying44 rfl (by kernel_rfl) ?_
          simp only [Act.put, List.setIfInBounds_toArray, List.set_cons_zero, List.set_cons_succ]
          refine det_load_row (by rfl) 68 _ rfl (N + 1) rfl 68 _ _ (fun w1 hS => (HOB.out w1 hS.hB).l.bR) Try.underlying68 rfl (by kernel_rfl) ?_
          simp only [Act.put, List.setIfInBounds_toArray, List.set_cons_zero, List.set_cons_succ]
          iterate 3 (first | (refine det_skip (by rfl) ?_; simp only [Act.put, List.setIfInBounds_toArray, List.set_cons_zero, List.set_cons_succ]) | (refine det_pure (v := ?_) (by rfl) ?_ ?_; rotate_left; (intro wS hS; go_simp; try with_reducible rfl); simp only [Act.put, List.setIfInBounds_toArray, List.set_cons_zero, List.set_cons_succ]))
          refine det_pure (v := .int .i64 c) (by rfl) (fun w1 hS => by have cy := hS.bp.cell 0; go_simp; try with_reducible rfl) ?_
          simp only [Act.put, List.setIfInBounds_toArray, List.set_cons_zero, List.set_cons_succ]
          refine det_pure (v := .int .i64 ((z : Int) / (c : Int))) (by rfl) (fun w1 hS => by go_simp) ?_
          simp only [Act.put, List.setIfInBounds_toArray, List.set_cons_zero, List.set_cons_succ]
          iterate 2 (first | (refine det_skip (by rfl) ?_; simp only [Act.put, List.setIfInBounds_toArray, List.set_cons_zero, List.set_cons_succ]) | (refine det_pure (v := ?_) (by rfl) ?_ ?_; rotate_left; (intro wS hS; go_simp; try with_reducible rfl); simp only [Act.put, List.setIfInBounds_toArray, List.set_cons_zero, List.set_cons_succ]))
          refine det_pure (v := .int .i64 c) (by rfl) (fun w1 hS => by have cy := hS.bp.cell 0; go_simp; try with_reducible rfl) ?_
          simp only [Act.put, List.setIfInBounds_toArray, List.set_cons_zero, List.set_cons_succ]
          refine det_pure (v := .int .i64 ((z : Int) % (c : Int))) (by rfl) (fun w1 hS => by go_simp; exact Int.tmod_eq_emod_of_nonneg (by omega)) ?_
          simp only [Act.put, List.setIfInBounds_toArray, List.set_cons_zero, List.set_cons_succ]
          refine det_call (v := .bool (Pl.insI a b h d c z)) (by rfl) (by intro wS hS; go_simp; first | done | exact ⟨rfl, rfl⟩) (fun V hS => ?_) ?_
          · exact (htz V (HOB.out V hS.hB).f).mono fun e w' hh => ⟨hh.1, hS.below hh.2⟩
          simp only [Act.put, List.setIfInBounds_toArray, List.set_cons_zero, List.set_cons_succ]
          refine det_nil ?_
          rintro W2 hS
          clear htz hq1
          have hln := Pl.sel_len bs (Pl.insI a b h d c) z
          have hc0 : C < W2.heap.size := hS.bC.lt
          by_cases hin : Pl.insI a b h d c z = true
          · rw [hin]
            have HSEL := Lib.hid (Pl.sel_yes (bs := bs) hin)
            have hbx := Pl.blk_get hzl
            have hb64 := Pl.blk_len hx64 z
            generalize Pl.blk bs z = y at *
            generalize Pl.sel bs (Pl.insI a b h d c) z = L at *
            obtain ⟨bv, cv, rfl⟩ := hS.row.len
            obtain ⟨ad, cp, hsl, -, -⟩ := (HAB.out _ hS.hB).some (by omega)
            simp only [Value.slice.injEq] at hsl
            obtain ⟨rfl, -, rfl⟩ := hsl
            go_upto_region 18 with fail
            have hGm : ∀ V V', RS C v0 v1 v2 v3 c r 0 0 (.slice bv L.length cv) (.slice (some ad) bs.length uc) L Wb V → Below V.heap.size V V' → RS C v0 v1 v2 v3 c r 0 0 (.slice bv L.length cv) (.slice (some ad) bs.length uc) L Wb V' := fun V V' h hb => h.below hb
            refine wp_region_mono [0, 1, 2, 3, 4, 5, 6, 7, 8] [9, 10, 11, 12] (RS C v0 v1 v2 v3 c r 0 0 (.slice bv L.length cv) (.slice (some ad) bs.length uc) L Wb)
              (fun | 8 => some (sSlice 1 (ints .i16 y) 57) | _ => none) (fun _ => []) (by kernel_rfl) (by kernel_rfl) (hS.below (Below.refl _ _).drew) ?_ ?_
            · intro i s hs
              match i with
              | 8 => cases hs; exact fun _ _ => sSlice_mono _ _ _ _ _
            clear hS
            simp only [pick, List.getD_cons_succ, List.getD_cons_zero, List.zip_cons_cons, List.zip_nil_right]
            (repeat (first | (refine mono_skip (by rfl) ?_; simp only [Act.put, List.setIfInBounds_toArray, List.set_cons_zero, List.set_cons_succ]) | (refine mono_pure (v := ?_) (by rfl) rfl ?_ ?_; rotate_left; (intro wS hS; go_simp; try with_reducible rfl); simp only [Act.put, List.setIfInBounds_toArray, List.set_cons_zero, List.set_cons_succ])))
            refine mono_pure (v := .slice bv L.length cv) (by rfl) rfl (fun w1 hG => by have cy := hG.bC.cell 6; go_simp; try with_reducible rfl) ?_
            simp only [Act.put, List.setIfInBounds_toArray, List.set_cons_zero, List.set_cons_succ]
            (repeat (first | (refine mono_skip (by rfl) ?_; simp only [Act.put, List.setIfInBounds_toArray, List.set_cons_zero, List.set_cons_succ]) | (refine mono_pure (v := ?_) (by rfl) rfl ?_ ?_; rotate_left; (intro wS hS; go_simp; try with_reducible rfl); simp only [Act.put, List.setIfInBounds_toArray, List.set_cons_zero, List.set_cons_succ])))
            refine mono_pure (v := .slice (some ad) bs.length uc) (by rfl) rfl (fun w1 hG => by have cy := hG.bp.cell 2; go_simp; try with_reducible rfl) ?_
            simp only [Act.put, List.setIfInBounds_toArray, List.set_cons_zero, List.set_cons_succ]
            (repeat (first | (refine mono_skip (by rfl) ?_; simp only [Act.put, List.setIfInBounds_toArray, List.set_cons_zero, List.set_cons_succ]) | (refine mono_pure (v := ?_) (by rfl) rfl ?_ ?_; rotate_left; (intro wS hS; go_simp; try with_reducible rfl); simp only [Act.put, List.setIfInBounds_toArray, List.set_cons_zero, List.set_cons_succ])))
            refine mono_pure (by rfl) rfl (fun w1 hG => ar_loadx (HAB.out _ hG.hB) hx64 z hzl y hbx _ rfl rfl) ?_
            simp only [Act.put, List.setIfInBounds_toArray, List.set_cons_zero, List.set_cons_succ]
            refine mono_slice 1 (ints .i16 y) 57 (by rfl) rfl hGm (fun wS => run_exec_slice1 _ rfl y rfl hb64) (fun gs => ?_)
            simp only [Act.put, List.setIfInBounds_toArray, List.set_cons_zero, List.set_cons_succ]
            refine mono_nil ?_
            rintro w1 hP ⟨hbs, I, hI1, hI2⟩
            obtain ⟨i1, i2, i3, ⟨g, hg, i4, i5, i6⟩⟩ := hI1 8 _ (upd_self _ _ _)
            obtain rfl : gs = g := by simpa using hg
            have hmid := i6.ar1b hb64
            have hc1' : C + 1 ≤ w1.heap.size := hP.bC.lt
            have hc2' : C + 2 ≤ w1.heap.size := hP.bp.lt
            have hRw := hP.row
            have hb7 := hP.bC
            have hne : ∀ g, (Value.slice bv L.length cv).ownBlock = some g → C + 2 ≤ g := fun g hg => (hRw.lt g hg).1
            clear hI1 hI2 i1 i2 i3 i4 i5 hg hbs hGm
            go_wp2_with (refine wpList_append_ar _ rfl _ _ 59 rfl (C + 2) 57 _ _ 64 128 rfl rfl rfl rfl rfl rfl _ L.length _ rfl hRw _ 1 _ rfl hmid (bcells_one _) (by simp only [maxLen]; omega) (by omega) (by omega) (fun v' w4 hR4 hg4 hat => ?_); obtain ⟨bz, cz, rfl⟩ := hR4.len; have hg5 : w1.grownBy w4 (Value.slice bv L.length cv).ownBlock := hg4; have b74 := hb7.grown hg5 (fun e => by have := hne _ e.symm; omega); have q6 := b74.cell 6; have f6 := b74.free 6)
            have hnr : ∀ g, g < C + 2 → some g ≠ (Value.slice bv L.length cv).ownBlock := fun g hg e => by have := hne _ e.symm; omega
            have hlen : (L ++ [y]).length = L.length + 1 := by simp
            refine ⟨⟨z + 1, .slice bz (L.length + 1) cz, hzl, by go_num, ?_⟩, by simp [intOf]; omega⟩
            rw [HSEL.out]
            refine ⟨b74.set 6 _, (hP.bp.grown hg5 (hnr _ (by omega))).other _ _ (by show C + 1 ≠ C; omega), ?_, ?_⟩
            · rw [hlen, bcells_append]
              exact hR4.other _ _ (fun g hg => by have := (hR4.lt g hg).1; show g ≠ C; omega)
            · exact (Below.grown hP.hB (by omega) hg5 (fun g e => by have := hne g e; omega)).setCell (p := ⟨C, 6, none⟩) (by show C ≤ C; omega) _
          · have hin : Pl.insI a b h d c z = false := by simpa using hin
            rw [hin]
            have HSEL := Lib.hid (Pl.sel_no (bs := bs) hin)
            go_wp2_with fail
            exact ⟨⟨z + 1, v, hzl, by go_num, by rw [HSEL.out]; exact hS⟩, by simp [intOf]; omega⟩
        · have tz : decide (z < bs.length) = false := by simpa using hzl
          obtain rfl : z = bs.length := by omega
          obtain ⟨bv, cv, rfl⟩ := hS.row.len
          have hS1 := hS
          rw [Pl.sel_win HNL.out HNN.out.ah HNN.out.bd HNN.out.d1] at hS1
          have hwl := Pl.win_len HNL.out HNN.out.ah HNN.out.bd h (Nat.le_refl _)
          have hsl : (Pl.sel bs (Pl.insI a b h d c) bs.length).length = (Pl.win bs c a b d h).length := by rw [Pl.sel_win HNL.out HNN.out.ah HNN.out.bd HNN.out.d1]
          have hcq := cropG_ok (un_ok HU.out) HPL.out k hlt
          rw [HGK.out] at hcq
          have HCQ := Lib.hid hcq
          try rw [hsl]
          clear hS hsl
          generalize Pl.win bs c a b d h = L at *
          have hL16 : L.length ≤ 16384 := by
            have h3 := HNN.out.ah; have h4 := HNN.out.bd; have h5 := HNN.out.cr
            rw [hwl]
            have := Nat.mul_le_mul (show h ≤ r by omega) (show d ≤ c by omega)
            rw [Nat.mul_comm r c] at this
            omega
          have HWL := Lib.hid hwl
          clear hwl
          obtain ⟨pa, pcap, rfl, -, -⟩ := RFr.part hR (HOB.out _ hS1.hB).f hlt
          have hpt := fun V (hV : RFr x (.slice (some pa) (qsP x).length pcap) gv V) => RFr.part hR hV hlt
          have hpp : ∀ V, RFr x (.slice (some pa) (qsP x).length pcap) gv V → V.cell? (pa.add (k * 2)) = some (.int .i64 (pH x k)) ∧ V.cell? ⟨(pa.add (k * 2)).block, (pa.add (k * 2)).off + 1, none⟩ = some (.int .i64 (pV x k)) := fun V hV => by
            obtain ⟨a', c', he, h1, h2⟩ := hpt V hV
            cases he
            exact ⟨h1, h2⟩
          have HPP := Lib.hid hpp
          have hql : (qsP x).length = x.cs.length := qsP_len x
          have hkq : (k : Int) < ((qsP x).length : Int) := by rw [hql]; exact j1
          have hnu := hR.nums
          obtain ⟨-, -, hu8, hv8, -⟩ := hnu
          have hq0 : 0 ≤ Y / uhI x := (un_ok HU.out).a0
          have hqy : Y / uhI x ≤ Y := Int.ediv_le_self _ HY1.out
          have HEA := Lib.hid (show Y / uhI x * pV x k = a from HNN.out.ea)
          have ha16 : (a : Int) ≤ 16384 := by have := HNN.out.ah; omega
          clear hpt hpp hql
          have hbd := HNN.out.bd
          have hd1 := HNN.out.d1
          have HTQ := Lib.hid (fun q => HTC2.out q)
          have hS2 : RS C v0 v1 v2 v3 c r (((min 0 (b + d) - b : Nat)) : Int) 0 (.slice bv L.length cv) (.slice ub bs.length uc) L Wb wr := by
            have e : min 0 (b + d) - b = 0 := by omega
            rw [e]; exact hS1
          go_wp2
          go_loopw [14] (fun iv V => ∃ q : Nat, q ≤ c ∧ iv = .int .i64 q ∧ RS C v0 v1 v2 v3 c r (((min q (b + d) - b : Nat)) : Int) 0 (.slice bv L.length cv) (.slice ub bs.length uc) L Wb V) (fun iv _ => c - (intOf iv).toNat)
          case atStart => exact ⟨0, Nat.zero_le _, rfl, hS2⟩
          case round =>
            clear hS1 hS2
            obtain ⟨q, hq, rfl, hS⟩ := hrel
            have p0 := hS.bp.cell 0
            by_cases hqc : q < c
            · have tq : decide (q < c) = true := by simpa using hqc
              go_upto_region 22 with fail
              clear p0 tq
              have htq := htc (a : Int) (q : Int) ⟨by omega, by omega⟩ ⟨by omega, by omega⟩
              rw [HTQ.out q] at htq
              have uh0 : uhI x ≠ 0 := by omega
              have uh1 : uhI x ≠ -1 := by omega
              have Q1 := Lib.hid (show Y.tdiv (uhI x) = Y / uhI x from Int.tdiv_eq_ediv_of_nonneg HY1.out)
              refine wp_region_det (RS C v0 v1 v2 v3 c r (((min q (b + d) - b : Nat)) : Int) 0 (.slice bv L.length cv) (.slice ub bs.length uc) L Wb) (by kernel_rfl) (by kernel_rfl) (hS.below (Below.refl _ _).drew) ?_
              clear hS
              refine det_load_row (by rfl) 44 _ rfl F rfl 44 _ _ (fun w1 hS => (HOB.out w1 hS.hB).bF) Try.underlying44 rfl (by kernel_rfl) ?_
              simp only [Act.put, List.setIfInBounds_toArray, List.set_cons_zero, List.set_cons_succ]
              refine det_load_row (by rfl) 68 _ rfl (N + 1) rfl 68 _ _ (fun w1 hS => (HOB.out w1 hS.hB).l.bR) Try.underlying68 rfl (by kernel_rfl) ?_
              simp only [Act.put, List.setIfInBounds_toArray, List.set_cons_zero, List.set_cons_succ]
              iterate 2 (first | (refine det_skip (by rfl) ?_; simp only [Act.put, List.setIfInBounds_toArray, List.set_cons_zero, List.set_cons_succ]) | (refine det_pure (v := ?_) (by rfl) ?_ ?_; rotate_left; (intro wS hS; go_simp; try with_reducible rfl); simp only [Act.put, List.setIfInBounds_toArray, List.set_cons_zero, List.set_cons_succ]))
              refine det_pure (v := .int .i64 Y) (by rfl) (fun w1 hS => by have cy := (HOB.out w1 hS.hB).l.bR.cell 1; go_simp; try with_reducible rfl) ?_
              simp only [Act.put, List.setIfInBounds_toArray, List.set_cons_zero, List.set_cons_succ]
              (first | (refine det_skip (by rfl) ?_; simp only [Act.put, List.setIfInBounds_toArray, List.set_cons_zero, List.set_cons_succ]) | (refine det_pure (v := ?_) (by rfl) ?_ ?_; rotate_left; (intro wS hS; go_simp; try with_reducible rfl); simp only [Act.put, List.setIfInBounds_toArray, List.set_cons_zero, List.set_cons_succ]))
              refine det_pure (v := .int .i64 (uhI x)) (by rfl) (fun w1 hS => by have cy : w1.cell? ⟨F, 1, none⟩ = some (.int .i64 (uhI x)) := (HOB.out w1 hS.hB).bF.cell 1; go_simp; try with_reducible rfl) ?_
              simp only [Act.put, List.setIfInBounds_toArray, List.set_cons_zero, List.set_cons_succ]
              refine det_pure (v := .int .i64 (Y / uhI x)) (by rfl) (fun w1 hS => by have hy0 := HY1.out; have hy2 := HY2.out; go_simp; first | (rw [Q1.out]; exact IntWalk.i64_in _ (by omega)) | exact IntWalk.i64_in _ (by omega)) ?_
              simp only [Act.put, List.setIfInBounds_toArray, List.set_cons_zero, List.set_cons_succ]
              (first | (refine det_skip (by rfl) ?_; simp only [Act.put, List.setIfInBounds_toArray, List.set_cons_zero, List.set_cons_succ]) | (refine det_pure (v := ?_) (by rfl) ?_ ?_; rotate_left; (intro wS hS; go_simp; try with_reducible rfl); simp only [Act.put, List.setIfInBounds_toArray, List.set_cons_zero, List.set_cons_succ]))
              refine det_pure (v := .slice (some pa) (qsP x).length pcap) (by rfl) (fun w1 hS => by have cy : w1.cell? ⟨F, 4, none⟩ = some (.slice (some pa) (qsP x).length pcap) := (HOB.out w1 hS.hB).bF.cell 4; go_simp; try with_reducible rfl) ?_
              simp only [Act.put, List.setIfInBounds_toArray, List.set_cons_zero, List.set_cons_succ]
              iterate 3 (first | (refine det_skip (by rfl) ?_; simp only [Act.put, List.setIfInBounds_toArray, List.set_cons_zero, List.set_cons_succ]) | (refine det_pure (v := ?_) (by rfl) ?_ ?_; rotate_left; (intro wS hS; go_simp; try with_reducible rfl); simp only [Act.put, List.setIfInBounds_toArray, List.set_cons_zero, List.set_cons_succ]))
              refine det_pure (v := .int .i64 (pV x k)) (by rfl) (fun w1 hS => by obtain ⟨g1, g2⟩ := HPP.out w1 (HOB.out w1 hS.hB).f; go_simp; try with_reducible rfl) ?_
              simp only [Act.put, List.setIfInBounds_toArray, List.set_cons_zero, List.set_cons_succ]
              refine det_pure (v := .int .i64 a) (by rfl) (fun w1 hS => by go_simp; rw [HEA.out]; exact IntWalk.i64_in _ (by omega)) ?_
              simp only [Act.put, List.setIfInBounds_toArray, List.set_cons_zero, List.set_cons_succ]
              (first | (refine det_skip (by rfl) ?_; simp only [Act.put, List.setIfInBounds_toArray, List.set_cons_zero, List.set_cons_succ]) | (refine det_pure (v := ?_) (by rfl) ?_ ?_; rotate_left; (intro wS hS; go_simp; try with_reducible rfl); simp only [Act.put, List.setIfInBounds_toArray, List.set_cons_zero, List.set_cons_succ]))
              refine det_call (v := .bool (decide (b ≤ q ∧ q < b + d))) (by rfl) (by intro wS hS; go_simp; first | done | exact ⟨rfl, rfl⟩) (fun V hS => ?_) ?_
              · exact (htq V (HOB.out V hS.hB).f).mono fun e w' hh => ⟨hh.1, hS.below hh.2⟩
              simp only [Act.put, List.setIfInBounds_toArray, List.set_cons_zero, List.set_cons_succ]
              refine det_nil ?_
              rintro W2 hS
              clear htq Q1
              by_cases hin : b ≤ q ∧ q < b + d
              · rw [decide_eq_true hin]
                have e : min q (b + d) - b + 1 = min (q + 1) (b + d) - b := by omega
                have g4 := hS.bC.cell 4; have f4 := hS.bC.free 4
                have hmn : min q (b + d) - b ≤ 16384 := by omega
                have HE := Lib.hid (show (((min q (b + d) - b : Nat)) : Int) + 1 = (((min (q + 1) (b + d) - b : Nat)) : Int) by omega)
                generalize min q (b + d) - b = m at *
                clear e
                have hw1 : IntKind.i64.wrap ((m : Int) + 1) = (m : Int) + 1 := IntWalk.i64_in _ (by omega)
                go_wp2_with fail
                refine ⟨⟨q + 1, hqc, by go_num, ?_⟩, by simp [intOf]; omega⟩
                rw [← HE.out]
                exact ⟨hS.bC.set 4 _, hS.bp.other _ _ (by show C + 1 ≠ C; omega), hS.row.other _ _ (fun g hg => by have := (hS.row.lt g hg).1; show g ≠ C; omega), hS.hB.setCell (p := ⟨C, 4, none⟩) (by show C ≤ C; omega) _⟩
              · rw [decide_eq_false hin]
                have e : min q (b + d) - b = min (q + 1) (b + d) - b := by omega
                have HE := Lib.hid e
                clear e
                go_wp2_with fail
                exact ⟨⟨q + 1, hqc, by go_num, by rw [← HE.out]; exact hS⟩, by simp [intOf]; omega⟩
            · have tq : decide (q < c) = false := by simpa using hqc
              have e : min q (b + d) - b = d := by omega
              rw [e] at hS
              clear e
              have g4 := hS.bC.cell 4; have g6 := hS.bC.cell 6; have f5 := hS.bC.free 5; have g5 := hS.bC.cell 5
              have d0 : ¬ d = 0 := by omega
              have hdv : (L.length : Int) / (d : Int) = h := by rw [HWL.out, Int.natCast_mul]; exact Int.mul_ediv_cancel _ (by omega)
              have HDV := Lib.hid hdv
              clear hdv
              go_upto_region 25 with fail
              refine wp_world (RS C v0 v1 v2 v3 c r d h (.slice bv L.length cv) (.slice ub bs.length uc) L Wb) (by
                have hq : wrap64 ((L.length : Int) / (d : Int)) = (h : Int) := by rw [HDV.out]; exact IntWalk.wrap64_in _ (by have := HNN.out.ah; omega)
                show RS C v0 v1 v2 v3 c r d h (.slice bv L.length cv) (.slice ub bs.length uc) L Wb (wr.setCell ⟨C, 5, none⟩ (.int .i64 (wrap64 ((L.length : Int) / (d : Int)))))
                rw [hq]
                exact ⟨hS.bC.set 5 _, hS.bp.other _ _ (by show C + 1 ≠ C; omega), hS.row.other _ _ (fun g hg => by have := (hS.row.lt g hg).1; show g ≠ C; omega), hS.hB.setCell (p := ⟨C, 5, none⟩) (by show C ≤ C; omega) _⟩) ?_
              clear hS g4 g5 g6 f5
              intro Wz hS
              have hO5 := HOB.out _ hS.hB
              obtain ⟨b3, c3, hyl⟩ := hO5.cs.row.len
              obtain rfl := hyl
              have hy20 : ys.length ≤ 20 := by have := congrArg List.length hys; simp at this; omega
              have hcq := HCQ.out
              obtain ⟨e0, e1, e2, e3⟩ := HV.out
              have hk2 := HOK.out
              have w0 := hk2.wid; have w1' := hk2.wh; have w2' := hk2.wv; have w3' := hk2.wq
              rw [e0] at w0; rw [e1] at w1'; rw [e2] at w2'; rw [e3] at w3'
              have HCO := Lib.hid (fun W' (hA : Ar W' 64 (.slice bv L.length cv) L.length (bcells L)) => (CompArg.Ok.mk hA hcq.h64 hcq.wb w0 w1' w2' w3' hcq.wc hcq.wr : CompArg.Ok W' ⟨v0, v1, v2, v3, d, h, .slice bv L.length cv, L⟩))
              have hcd : cd (⟨v0, v1, v2, v3, d, h, .slice bv L.length cv, L⟩ : CompArg) = cd (setP (x.cs.getD k noComp) (cropG x X Y W H k).c (cropG x X Y W H k).r (.slice none 0 0) (cropG x X Y W H k).l) := by
                rw [HGK.out, comp_getD hlt]
                unfold setP cd
                rw [e0, e1, e2, e3]
              have HCD := Lib.hid hcd
              clear hcd e0 e1 e2 e3 hk2 w0 w1' w2' w3' hcq
              have p2 : Wz.cell? ⟨P, 2, none⟩ = some (.slice b3 ys.length c3) := hO5.bP.cell 2
              have hWA : Below Wz.heap.size Wz (Wz.alloc (.cells #[.int .i64 v0, .int .i64 v1, .int .i64 v2, .int .i64 v3, .int .i64 d, .int .i64 h, .slice bv L.length cv] 63)) := (Below.refl _ _).alloc (Nat.le_refl _) _
              have hO6 := hO5.below hWA
              have hR6 := hO6.cs.row
              have hS6 := hS.row.grow hWA
              have hbN := Blk.new Wz #[.int .i64 v0, .int .i64 v1, .int .i64 v2, .int .i64 v3, .int .i64 d, .int .i64 h, .slice bv L.length cv] 63
              have hP6 := hO6.bP.lt
              go_wp2_with (first
                | (refine wpList_load_row rfl 63 _ rfl C rfl 63 _ _ _ hS.bC Try.underlying63 rfl (by kernel_rfl) ?_)
                | (refine wpList_append_Row _ rfl _ _ 22 rfl (P + 1) 63 _ _ 7 72 rfl rfl rfl rfl rfl rfl _ ys.length _ rfl hR6 _ 1 1 [.int .i64 v0, .int .i64 v1, .int .i64 v2, .int .i64 v3, .int .i64 d, .int .i64 h, .slice bv L.length cv] rfl (by omega) rfl hbN.cells (by intro u hu; simp at hu; rcases hu with rfl | rfl | rfl | rfl | rfl | rfl | rfl <;> rfl) (by simp only [maxLen]; omega) (by omega) (by omega) (fun v' w8 hR8 hg8 hat => ?_); obtain ⟨bz, cz, rfl⟩ := hR8.len; have bP8 := hO6.bP.grown hg8 (fun e => hR6.typed hO6.bP (by decide) P e.symm rfl); have p8 := bP8.cell 2; have f8 := bP8.free 2))
              refine ⟨⟨k + 1, .slice bz (ys.length + 1) cz, ys ++ [⟨v0, v1, v2, v3, d, h, .slice bv L.length cv, L⟩], hlt, by go_num, ?_, ?_⟩, by simp [intOf]; omega⟩
              · rw [List.map_append, List.range_succ, List.map_append, hys]
                simp only [List.map_cons, List.map_nil]
                rw [HCD.out]
              · have hR9 : Row w8 (P + 1) 63 7 (.slice bz (ys.length + 1) cz) (ys.length + 1) ((ys.map CompArg.cells).flatten ++ (⟨v0, v1, v2, v3, d, h, .slice bv L.length cv, L⟩ : CompArg).cells) := hR8
                exact OC.push HI.out hO6 hg8 hR9 (hS6.down (by omega)) HCO.out
    · have tl : decide (k < x.cs.length) = false := by simpa using hlt
      obtain rfl : k = x.cs.length := by omega
      have q2' := q2
      have HYL := Lib.hid (show ys.length = x.cs.length by have := congrArg List.length hys; simpa using this)
      obtain ⟨b3, c3, rfl⟩ := hO.cs.row.len
      have hpq : (#[.int .i64 W, .int .i64 H, .slice b3 ys.length c3, x.qu, x.tu] : Array Value).all (·.oneCell') = true := by rw [HQU.out, HTU.out]; simp [Value.oneCell']
      go_wp2_with (first
        | (refine wpList_load_row rfl 26 _ rfl P rfl 26 _ _ _ hO.bP Try.underlying26 rfl (by kernel_rfl) ?_)
        | (refine wpList_store_row rfl 26 _ _ rfl (N + 2) _ rfl rfl 26 _ hO.bQ (by kernel_rfl) rfl hpq ?_))
      refine bodyPost_ret (results_row_tmp rfl _ _ (N + 2) 26 _ _ rfl (hO.bQ.row _) Try.underlying26 rfl (by kernel_rfl)) rfl ?_
      have hBF : Below N w (wr.setRow (N + 2) #[.int .i64 W, .int .i64 H, .slice b3 ys.length c3, x.qu, x.tu]) := by have := hO.l.l.hB; rw [← HN.out] at this; exact Below.setRow this (by omega) _
      have hyl := HYL.out
      have hix := HI.out.below (by rw [← HN.out]; exact hBF)
      have hlo := hO.lo
      have hcs9 : Cs (P + 1) (.slice b3 ys.length c3) ys (wr.setRow (N + 2) #[.int .i64 W, .int .i64 H, .slice b3 ys.length c3, x.qu, x.tu]) :=
        ⟨hO.cs.row.same fun g e => setRow_other _ _ _ _ (by have := (hO.cs.row.lt g e).1; omega), fun c hc => ⟨(hO.cs.pl c hc).1.same fun g e => setRow_other _ _ _ _ (by have := ((hO.cs.pl c hc).1.lt g e).1; omega), (hO.cs.pl c hc).2⟩⟩
      refine ⟨⟨⟨W, H, .slice b3 ys.length c3, x.qu, x.tu, ys, x.qs, x.ts⟩, rfl, ?_, ⟨rfl, hW, hH, hcs9.comps (by omega), hix.qs, hix.ts⟩, ?_⟩, hBF⟩
      · rw [HRD.out]
        refine ⟨rfl, rfl, ?_, rfl, rfl⟩
        show ys.map cd = (putAll x (cropG x X Y W H)).cs.map cd
        rw [hys]
        unfold putAll
        simp only [List.map_map]
        rfl
      · refine ⟨by show ys.length ≤ 20; omega, hf.q20, hf.t100, fun c hc => ?_, hf.t140⟩
        obtain ⟨i, hi, rfl⟩ := List.getElem_of_mem hc
        have hi2 : i < ys.length := hi
        have he := congrArg (fun l => l[i]?) hys
        simp only [List.getElem?_map, List.getElem?_eq_getElem hi2, Option.map_some] at he
        have hir : i < (List.range x.cs.length).length := by simp; omega
        rw [List.getElem?_eq_getElem hir, Option.map_some, List.getElem_range] at he
        have hbs : (ys[i]'hi2).bs = (cropG x X Y W H i).l := congrArg (fun t => t.2.2.2) (Option.some.inj he)
        have hq := cropG_ok (un_ok HU.out) HPL.out i (by omega)
        show (ys[i]'hi2).bs.length ≤ 20000
        rw [hbs]
        exact hq.few
end Go.Proofs.Ytgmhhocpdfdplaa
