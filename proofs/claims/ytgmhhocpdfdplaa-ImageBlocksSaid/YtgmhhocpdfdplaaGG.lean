/- Texts on one foundation, joined: BlankS, Blank, Awake11, ImgLaw. -/
import Derived.Test.YtgmhhocpdfdplaaGF
import Derived.Test.YtgmhhocpdfdplaaGB
import Derived.Test.YtgmhhocpdfdplaaGA
import Derived.Great.BuildSlice
/- Package image: what Blank makes, in plain words; the image while it is made. -/
namespace Go.Proofs.Ytgmhhocpdfdplaa
open Go.RowKit
set_option maxRecDepth 100000
theorem wf64 (z : Int) (h1 : -9223372036854775808 ≤ z) (h2 : z ≤ 9223372036854775807) : (Lit.int .i64 z).wf = true := by
  show (decide (IntKind.i64.min ≤ z) && decide (z ≤ IntKind.i64.max)) = true
  rw [decide_eq_true (show IntKind.i64.min ≤ z from h1), decide_eq_true (show z ≤ IntKind.i64.max from h2)]
  rfl
theorem upI_pos {a b : Int} (ha : 1 ≤ a) (hb : 1 ≤ b) : 1 ≤ upI a b := by
  unfold upI
  exact (Int.le_ediv_iff_mul_le (by omega)).2 (by omega)
theorem smN_term {f : Nat → Int} : ∀ n, (∀ j, j < n → 0 ≤ f j) → 0 ≤ smN f n ∧ ∀ k, k < n → f k ≤ smN f n
  | 0, _ => ⟨Int.le_refl _, fun k hk => absurd hk (by omega)⟩
  | n + 1, h => by
    have ih := smN_term n (fun j hj => h j (by omega))
    have hn := h n (by omega)
    simp only [smN]
    refine ⟨by omega, fun k hk => ?_⟩
    by_cases hkn : k = n
    · subst hkn; omega
    · have := ih.2 k (by omega); omega
theorem sized_of {c r : Int} (hc : 1 ≤ c) (hr : 1 ≤ r) (h : c * r ≤ 16384) : Pl.sized c r = 0 := by
  unfold Pl.sized
  rw [if_neg (by omega), if_neg]
  have h1 : c * 1 ≤ c * r := Int.mul_le_mul_of_nonneg_left hr (by omega)
  have h2 : r ≤ 16384 / c := (Int.le_ediv_iff_mul_le (by omega)).2 (by rw [Int.mul_comm]; exact h)
  omega
/-- The grids of a frame that is right. -/
theorem grid_ok {x y : Int} {qs : List (Int × Int)} (h : FrOk x y qs) (ht : totN x y qs ≤ 16384) {k : Nat} (hk : k < (gridsN x y qs).length) :
    1 ≤ ((gridsN x y qs)[k]'hk).c ∧ 1 ≤ ((gridsN x y qs)[k]'hk).r ∧ ((gridsN x y qs)[k]'hk).c * ((gridsN x y qs)[k]'hk).r ≤ 16384 := by
  have hkq : k < qs.length := by simpa [gridsN] using hk
  have ha : 1 ≤ acN x qs := upI_pos h.x1 (by have := h.hh; omega)
  have hd : 1 ≤ dnN y qs := upI_pos h.y1 (by have := h.vv; omega)
  have hterm : ∀ j, j < qs.length → 1 ≤ acN x qs * hA qs j ∧ 1 ≤ dnN y qs * vA qs j := fun j hj => by
    have hp := h.ps j hj
    have h1 : 1 * 1 ≤ acN x qs * hA qs j := Int.mul_le_mul ha hp.1 (by decide) (by omega)
    have h2 : 1 * 1 ≤ dnN y qs * vA qs j := Int.mul_le_mul hd hp.2.2.1 (by decide) (by omega)
    omega
  have hs := (smN_term (f := fun k => (acN x qs * hA qs k) * (dnN y qs * vA qs k)) qs.length (fun j hj => Int.mul_nonneg (by have := hterm j hj; omega) (by have := hterm j hj; omega))).2 k hkq
  have e : (gridsN x y qs)[k]'hk = gridP x y (hhN qs) (vvN qs) (acN x qs) (dnN y qs) (qs[k]'hkq) := by simp [gridsN]
  have e1 : (qs[k]'hkq).1 = hA qs k := by simp [hA, List.getD_eq_getElem?_getD, hkq]
  have e2 : (qs[k]'hkq).2 = vA qs k := by simp [vA, List.getD_eq_getElem?_getD, hkq]
  rw [e]
  simp only [gridP]
  rw [e1, e2]
  exact ⟨(hterm k hkq).1, (hterm k hkq).2, Int.le_trans hs ht⟩
theorem newE_zero {x y : Int} {ps : List (Int × Int)} (h : newE x y ps = 0) : FrOk x y (partsOf ps) ∧ totN x y (partsOf ps) ≤ 16384 := by
  unfold newE at h
  split at h
  · rename_i h1; exact absurd h h1
  · rename_i h1
    split at h
    · cases h
    · split at h
      · cases h
      · rename_i h3
        exact ⟨(rightE_ok (by simpa using h1)).parts, by omega⟩
theorem frG_ok {x : ImgArg} (h : frE x = 0) {k : Nat} (hk : k < (frG x).length) : 1 ≤ ((frG x)[k]'hk).c ∧ 1 ≤ ((frG x)[k]'hk).r ∧ ((frG x)[k]'hk).c * ((frG x)[k]'hk).r ≤ 16384 := by
  obtain ⟨h1, h2⟩ := newE_zero h
  exact grid_ok h1 h2 hk
/-- A component's plane of noughts. -/
def zeroBs (g : GridV) : List (List Int) := List.replicate (g.c.toNat * g.r.toNat) (List.replicate 64 0)
structure CB (x0 : CompArg) (g : GridV) (x : CompArg) : Prop where
  id : x.id = x0.id
  h : x.h = x0.h
  v : x.v = x0.v
  q : x.q = x0.q
  c : x.c = g.c
  r : x.r = g.r
  bs : x.bs = zeroBs g
def noGrid : GridV := ⟨0, 0, 0, 0⟩
/-- The first k components have planes of noughts. -/
structure BlankTo (c0 : List CompArg) (gs : List GridV) (k : Nat) (cs : List CompArg) : Prop where
  len : cs.length = c0.length
  lo : ∀ i, i < k → i < c0.length → CB (c0.getD i noComp) (gs.getD i noGrid) (cs.getD i noComp)
  hi : ∀ i, k ≤ i → cs.getD i noComp = c0.getD i noComp
theorem BlankTo.zero (c0 : List CompArg) (gs : List GridV) : BlankTo c0 gs 0 c0 := ⟨rfl, fun i hi => absurd hi (by omega), fun _ _ => rfl⟩
def putP (x : CompArg) (g : GridV) (u : Value) : CompArg := ⟨x.id, x.h, x.v, x.q, g.c, g.r, u, zeroBs g⟩
theorem getD_set_self (cs : List CompArg) (k : Nat) (c : CompArg) (hk : k < cs.length) : (cs.set k c).getD k noComp = c := by simp [List.getD_eq_getElem?_getD, hk]
theorem getD_set_other (cs : List CompArg) (k i : Nat) (c : CompArg) (hk : k ≠ i) : (cs.set k c).getD i noComp = cs.getD i noComp := by simp [List.getD_eq_getElem?_getD, List.getElem?_set_ne hk]
theorem BlankTo.step {c0 : List CompArg} {gs : List GridV} {k : Nat} {cs : List CompArg} (h : BlankTo c0 gs k cs) (hk : k < cs.length) (g : GridV) (hg : gs.getD k noGrid = g) (u : Value) :
    BlankTo c0 gs (k + 1) (cs.set k (putP (cs[k]'hk) g u)) := by
  have e0 : cs[k]'hk = c0.getD k noComp := by rw [← h.hi k (Nat.le_refl _)]; simp [List.getD_eq_getElem?_getD, hk]
  refine ⟨by rw [List.length_set, h.len], fun i hi hic => ?_, fun i hi => ?_⟩
  · by_cases hik : i = k
    · subst hik
      rw [getD_set_self _ _ _ hk, hg, e0]
      exact ⟨rfl, rfl, rfl, rfl, rfl, rfl, rfl⟩
    · rw [getD_set_other _ _ _ _ (fun e => hik e.symm)]
      exact h.lo i (by omega) hic
  · rw [getD_set_other _ _ _ _ (by omega)]
    exact h.hi i (by omega)
/-- A cell of a row replaced. -/
theorem Row.set {w : World} {lo : Nat} {e : TypeId} {size n g cap : Nat} {xs : List Value} (h : Row w lo e size (.slice (some ⟨g, 0, none⟩) n cap) n xs) (i : Nat) (_hi : i < n * size) (v : Value) :
    Row (w.setCell ⟨g, i, none⟩ v) lo e size (.slice (some ⟨g, 0, none⟩) n cap) n (xs.set i v) := by
  refine ⟨by rw [List.length_set]; exact h.1, ?_⟩
  rcases h.2 with ⟨h0, _⟩ | ⟨g', cap', cur, h0, h2, h3, h4, h5, h6, h7⟩
  · cases h0
  · cases h0
    refine .inr ⟨g, cap, _, rfl, h2, h3.set i v, h4, h5, by simpa using h6, ?_⟩
    rw [← h7]
    rw [Array.toList_setIfInBounds, List.take_set]
theorem flat_set {L : List CompArg} {k : Nat} (hk : k < L.length) (a b c : Value) (x : CompArg) (hx : x.cells = [.int .i64 (L[k]'hk).id, .int .i64 (L[k]'hk).h, .int .i64 (L[k]'hk).v, .int .i64 (L[k]'hk).q, a, b, c]) :
    ((((L.map CompArg.cells).flatten.set (k * 7 + 4) a).set (k * 7 + 5) b).set (k * 7 + 6) c) = ((L.set k x).map CompArg.cells).flatten := by
  have e1 : L = L.take k ++ (L[k]'hk) :: L.drop (k + 1) := by
    rw [← List.drop_eq_getElem_cons hk, List.take_append_drop]
  have e2 : L.set k x = L.take k ++ x :: L.drop (k + 1) := by rw [List.set_eq_take_append_cons_drop, if_pos hk]
  rw [e2, List.map_append, List.flatten_append, List.map_cons, List.flatten_cons, hx]
  have e3 : (L.map CompArg.cells).flatten = ((L.take k).map CompArg.cells).flatten ++ ((L[k]'hk).cells ++ ((L.drop (k + 1)).map CompArg.cells).flatten) := by
    conv => lhs; rw [e1]
    rw [List.map_append, List.flatten_append, List.map_cons, List.flatten_cons]
  have hlA : ((L.take k).map CompArg.cells).flatten.length = k * 7 := by
    have : ∀ M : List CompArg, (M.map CompArg.cells).flatten.length = M.length * 7 := fun M => by
      induction M with
      | nil => rfl
      | cons c M ih => rw [List.map_cons, List.flatten_cons, List.length_append, ih]; simp [CompArg.cells]; omega
    rw [this, List.length_take, Nat.min_eq_left (by omega)]
  rw [e3]
  generalize ((L.take k).map CompArg.cells).flatten = A at *
  generalize ((L.drop (k + 1)).map CompArg.cells).flatten = B at *
  rw [List.set_append_right _ _ (by omega), List.set_append_right _ _ (by omega), List.set_append_right _ _ (by omega), hlA]
  rw [show k * 7 + 4 - k * 7 = 4 by omega, show k * 7 + 5 - k * 7 = 5 by omega, show k * 7 + 6 - k * 7 = 6 by omega]
  rfl
def PlK (N : Nat) (w W : World) (c : CompArg) : Prop := c.Ok w ∨ (Row W N 57 64 c.u c.bs.length (bcells c.bs) ∧ ∀ W', Ar W' 64 c.u c.bs.length (bcells c.bs) → c.Ok W')
/-- The image while it is made. -/
structure BkS (N M : Nat) (x : ImgArg) (w W : World) : Prop where
  bN : Blk W N #[.int .i64 0, .int .i64 0, .slice none 0 0, .slice none 0 0, .slice none 0 0] 26
  bM : Blk W M #[.int .i64 x.w, .int .i64 x.h, x.cu, x.qu, .slice none 0 0] 26
  row : Row W N 63 7 x.cu x.cs.length (x.cs.map CompArg.cells).flatten
  qrow : Row W N 39 65 x.qu x.qs.length (x.qs.map QuantArg.cells).flatten
  pl : ∀ c ∈ x.cs, PlK N w W c
  qok : ∀ q ∈ x.qs, q.Ok
  hM : N < M
  hN : N = w.heap.size
  hB : Below N w W
theorem BkS.below {N M : Nat} {x : ImgArg} {w W W' : World} (h : BkS N M x w W) (hb : Below W.heap.size W W') : BkS N M x w W' :=
  ⟨h.bN.below hb h.bN.lt, h.bM.below hb h.bM.lt, h.row.grow hb, h.qrow.grow hb, fun c hc => (h.pl c hc).imp id (fun h => ⟨h.1.grow hb, h.2⟩), h.qok, h.hM, h.hN, h.hB.trans (hb.mono (Nat.le_of_lt h.bN.lt))⟩
theorem BkS.comps {N M : Nat} {x : ImgArg} {w W : World} (h : BkS N M x w W) (hl : x.cs.length ≤ 1000000) : IsComps W x.cu x.cs :=
  ⟨Ar.elems h.row.ar (fun c hc => by obtain ⟨p, _, rfl⟩ := List.mem_map.1 hc; rfl) (by simp) (by simp only [maxLen]; omega), fun c hc => by
    rcases h.pl c hc with h1 | ⟨h1, h2⟩
    · exact h1.below (by rw [← h.hN]; exact h.hB)
    · exact h2 W h1.ar⟩
theorem BkS.img {N M : Nat} {x : ImgArg} {w W : World} (h : BkS N M x w W) (hl : x.cs.length ≤ 1000000) (hlq : x.qs.length ≤ 1000000) (h1 : (Lit.int .i64 x.w).wf = true) (h2 : (Lit.int .i64 x.h).wf = true) (ht : x.tu = .slice none 0 0) (hts : x.ts = []) : IsImg W x.val x :=
  ⟨rfl, h1, h2, h.comps hl, ⟨Ar.elems h.qrow.ar (fun c hc => by obtain ⟨q, hq, rfl⟩ := List.mem_map.1 hc; simp [QuantArg.cells, (h.qok q hq).l64]) (by simp) (by simp only [maxLen]; omega), h.qok⟩,
    ⟨by rw [ht, hts]; exact Ar.elems (Ar.nil W 2) (by simp) rfl (by simp), by rw [hts]; simp⟩⟩
theorem BkS.imgRow {N M : Nat} {x : ImgArg} {w W : World} (h : BkS N M x w W) (hl : x.cs.length ≤ 1000000) (hlq : x.qs.length ≤ 1000000) (h1 : (Lit.int .i64 x.w).wf = true) (h2 : (Lit.int .i64 x.h).wf = true) (ht : x.tu = .slice none 0 0) (hts : x.ts = []) (ds : Array Value) : IsImg (W.setRow N ds) x.val x := by
  have hB : Below N w (W.setRow N ds) := Below.setRow h.hB (Nat.le_refl _) _
  have hrow : Row (W.setRow N ds) N 63 7 x.cu x.cs.length (x.cs.map CompArg.cells).flatten := h.row.same fun g e => setRow_other W N g ds (h.row.typed h.bN (by decide) g e)
  have hqrow : Row (W.setRow N ds) N 39 65 x.qu x.qs.length (x.qs.map QuantArg.cells).flatten := h.qrow.same fun g e => setRow_other W N g ds (h.qrow.typed h.bN (by decide) g e)
  refine ⟨rfl, h1, h2, ⟨Ar.elems hrow.ar (fun c hc => by obtain ⟨p, _, rfl⟩ := List.mem_map.1 hc; rfl) (by simp) (by simp only [maxLen]; omega), fun c hc => ?_⟩, ⟨Ar.elems hqrow.ar (fun c hc => by obtain ⟨q, hq, rfl⟩ := List.mem_map.1 hc; simp [QuantArg.cells, (h.qok q hq).l64]) (by simp) (by simp only [maxLen]; omega), h.qok⟩,
    ⟨by rw [ht, hts]; exact Ar.elems (Ar.nil _ 2) (by simp) rfl (by simp), by rw [hts]; simp⟩⟩
  rcases h.pl c hc with h3 | ⟨h3, h4⟩
  · exact h3.below (by rw [← h.hN]; exact hB)
  · have h5 : Row (W.setRow N ds) N 57 64 c.u c.bs.length (bcells c.bs) := h3.same fun g e => setRow_other W N g ds (h3.typed h.bN (by decide) g e)
    exact h4 _ h5.ar
theorem BkS.put {N M g cap k : Nat} {x : ImgArg} {w W : World} (h : BkS N M x w W) (hc : x.cu = .slice (some ⟨g, 0, none⟩) x.cs.length cap) (hl : x.cs.length ≤ 1000000) (hk : k < x.cs.length) (gr : GridV) (hg1 : 1 ≤ gr.c) (hg2 : 1 ≤ gr.r) (hg3 : gr.c * gr.r ≤ 16384) (v : Value)
    (hv : Row W N 57 64 v (zeroBs gr).length (bcells (zeroBs gr))) :
    BkS N M { x with cs := x.cs.set k (putP (x.cs[k]'hk) gr v) } w (((W.setCell ⟨g, k * 7 + 4, none⟩ (.int .i64 gr.c)).setCell ⟨g, k * 7 + 5, none⟩ (.int .i64 gr.r)).setCell ⟨g, k * 7 + 6, none⟩ v) := by
  have hgt : ∀ (b : Nat) (cs : Array Value) (t : TypeId), Blk W b cs t → t ≠ 63 → b ≠ g := fun b cs t hb ht e => h.row.typed hb ht g (by rw [hc]; rfl) e.symm
  have hlo := h.row.lt g (by rw [hc]; rfl)
  have hkl : k * 7 + 7 ≤ x.cs.length * 7 := by omega
  have no3 : ∀ {b : Nat} {cs : Array Value} {t : TypeId}, Blk W b cs t → t ≠ 63 → Blk (((W.setCell ⟨g, k * 7 + 4, none⟩ (.int .i64 gr.c)).setCell ⟨g, k * 7 + 5, none⟩ (.int .i64 gr.r)).setCell ⟨g, k * 7 + 6, none⟩ v) b cs t := fun hb ht =>
    ((hb.other _ _ (hgt _ _ _ hb ht)).other _ _ (hgt _ _ _ hb ht)).other _ _ (hgt _ _ _ hb ht)
  have nor : ∀ {lo : Nat} {e : TypeId} {size : Nat} {u : Value} {n : Nat} {xs : List Value}, e ≠ 63 → Row W lo e size u n xs → Row (((W.setCell ⟨g, k * 7 + 4, none⟩ (.int .i64 gr.c)).setCell ⟨g, k * 7 + 5, none⟩ (.int .i64 gr.r)).setCell ⟨g, k * 7 + 6, none⟩ v) lo e size u n xs := fun {lo e size u n xs} he hr => by
    have hne : ∀ b, u.ownBlock = some b → b ≠ g := fun b hb => by
      rcases hr.2 with ⟨h0, _⟩ | ⟨g', cap', cur, h0, _, h3, _⟩
      · rw [h0] at hb; cases hb
      · rw [h0] at hb
        obtain rfl : g' = b := Option.some.inj hb
        exact hgt _ _ _ h3 he
    exact ((hr.other _ _ hne).other _ _ hne).other _ _ hne
  have hrow := h.row
  rw [hc] at hrow
  have r3 := ((hrow.set (k * 7 + 4) (by omega) (.int .i64 gr.c)).set (k * 7 + 5) (by omega) (.int .i64 gr.r)).set (k * 7 + 6) (by omega) v
  rw [flat_set hk (.int .i64 gr.c) (.int .i64 gr.r) v (putP (x.cs[k]'hk) gr v) rfl] at r3
  refine ⟨no3 h.bN (by decide), no3 h.bM (by decide), ?_, nor (by decide) h.qrow, ?_, h.qok, h.hM, h.hN, ((h.hB.setCell hlo.1 _).setCell hlo.1 _).setCell hlo.1 _⟩
  · show Row _ N _ 7 x.cu (x.cs.set k _).length _
    rw [hc, List.length_set]
    exact r3
  · intro c hcm
    rcases List.mem_or_eq_of_mem_set hcm with h1 | rfl
    · exact (h.pl c h1).imp id (fun h => ⟨nor (by decide) h.1, h.2⟩)
    · refine .inr ⟨nor (by decide) hv, fun W' ha => ?_⟩
      have hx := (h.comps hl).ok _ (List.getElem_mem hk)
      have hq1 : gr.c * 1 ≤ gr.c * gr.r := Int.mul_le_mul_of_nonneg_left hg2 (by omega)
      have hq2 : 1 * gr.r ≤ gr.c * gr.r := Int.mul_le_mul_of_nonneg_right hg1 (by omega)
      refine ⟨ha, fun b hb => by rw [List.eq_of_mem_replicate hb]; simp, fun b hb y hy => ?_, hx.wid, hx.wh, hx.wv, hx.wq, ?_, ?_⟩
      · rw [List.eq_of_mem_replicate hb] at hy
        rw [List.eq_of_mem_replicate hy]
        decide
      · exact wf64 gr.c (by omega) (by omega)
      · exact wf64 gr.r (by omega) (by omega)
end Go.Proofs.Ytgmhhocpdfdplaa
/- Package image: Blank. -/
namespace Go.Proofs.Ytgmhhocpdfdplaa
open Go.RowKit
set_option maxRecDepth 100000
set_option maxHeartbeats 8000000
def zeroImg : Value := .agg #[.int .i64 0, .int .i64 0, .slice none 0 0, .slice none 0 0, .slice none 0 0]
/-- A blank image of x's sides, components and tables. -/
structure BlankOf (x x1 : ImgArg) : Prop where
  w : x1.w = x.w
  h : x1.h = x.h
  qs : x1.qs = x.qs
  ts : x1.ts = []
  cs : BlankTo x.cs (frG x) x.cs.length x1.cs
  few : FewOk x1
def BlankRes (x : ImgArg) (v : Value) (e : Int) (w' : World) : Prop :=
  (frE x ≠ 0 → e = frE x ∧ v = zeroImg) ∧ (frE x = 0 → ∃ x1, BlankOf x x1 ∧ e = imgE x1 ∧ (e ≠ 0 → v = zeroImg) ∧ (e = 0 → v = x1.val ∧ IsImg w' x1.val x1))
theorem comp_one {w : World} {v : Value} {cs : List CompArg} (h : IsComps w v cs) : ∀ u ∈ (cs.map CompArg.cells).flatten, u.oneCell' = true := by
  intro u hu
  obtain ⟨c, hc, hu⟩ := List.mem_flatten.1 hu
  obtain ⟨x, hx, rfl⟩ := List.mem_map.1 hc
  obtain ⟨b, cap, he, -⟩ := (h.ok x hx).ar.len
  simp only [CompArg.cells, List.mem_cons, List.not_mem_nil, or_false] at hu
  rcases hu with rfl | rfl | rfl | rfl | rfl | rfl | rfl
  all_goals first | rfl | (rw [he]; rfl)
theorem quant_one (qs : List QuantArg) : ∀ u ∈ (qs.map QuantArg.cells).flatten, u.oneCell' = true := by
  intro u hu
  obtain ⟨c, hc, hu⟩ := List.mem_flatten.1 hu
  obtain ⟨x, hx, rfl⟩ := List.mem_map.1 hc
  simp only [QuantArg.cells, List.mem_cons, List.mem_map] at hu
  rcases hu with rfl | ⟨y, _, rfl⟩ <;> rfl
def shPl (c r : Nat) (n : Nat) (v : Value) : Prop := ∃ b cap, v = .agg #[.int .i64 c, .int .i64 r, .slice b n cap]
def fPl (bs : List (List Int)) (v : Value) : Fact := fun lo hi w => ∃ u, (∃ x y, v = .agg #[x, y, u]) ∧ Row w lo 57 64 u bs.length (bcells bs) ∧ ∀ g, u.ownBlock = some g → g < hi
theorem fPl_mono (bs : List (List Int)) (v : Value) : (fPl bs v).Mono := by
  intro lo hi w w' h hs hB
  obtain ⟨u, h1, h2, h3⟩ := h
  exact ⟨u, h1, h2.grow hB, h3⟩
theorem Row.blk {w : World} {lo : Nat} {e : TypeId} {size n g cap : Nat} {xs : List Value} (h : Row w lo e size (.slice (some ⟨g, 0, none⟩) n cap) n xs) : ∃ cur, Blk w g cur e := by
  rcases h.2 with ⟨h0, _⟩ | ⟨g', cap', cur, h0, h2, h3, _⟩
  · cases h0
  · cases h0; exact ⟨_, h3⟩
theorem Row.spot {w : World} {lo : Nat} {e : TypeId} {size n g cap : Nat} {xs : List Value} (h : Row w lo e size (.slice (some ⟨g, 0, none⟩) n cap) n xs) {i : Nat} (hi : i < n * size) :
    (∃ a, w.cell? ⟨g, i, none⟩ = some a) ∧ w.frozen? ⟨g, i, none⟩ = false := by
  rcases h.2 with ⟨h0, _⟩ | ⟨g', cap', cur, h0, h2, h3, h4, h5, h6, h7⟩
  · cases h0
  · cases h0
    have h8 : n * size ≤ cap * size := Nat.mul_le_mul_right _ h4
    exact ⟨⟨_, (h3.cell i).trans (Array.getElem?_eq_getElem (by omega))⟩, h3.free i⟩
theorem img_blank (x : ImgArg) (hf : FewOk x) (w : World) (h : IsImg w x.val x) :
    Calls Try.prog 26 #[.int .i64 x.w, .int .i64 x.h, x.cu, x.qu] w fun r w' => ∃ v e, r = .returned (.tuple #[v, .int .i64 e]) ∧ Below w.heap.size w w' ∧ BlankRes x v e w' := by
  have hc20 := hf.c20
  have hq20 := hf.q20
  obtain ⟨N, hN⟩ : ∃ N, N = w.heap.size := ⟨_, rfl⟩
  have HN := Lib.hid hN
  rw [← hN]
  have hbe : Below w.heap.size w (w.alloc (.cells #[.int .i64 0, .int .i64 0, .slice none 0 0, .slice none 0 0, .slice none 0 0] 26)) := (Below.refl _ _).alloc (Nat.le_refl _) _
  have har : ∀ W, Below w.heap.size w W → Ar W 7 x.cu x.cs.length (x.cs.map CompArg.cells).flatten := fun W hb => by
    have := (h.cs.below hb).el.ar
    rwa [List.length_map] at this
  have haq : ∀ W, Below w.heap.size w W → Ar W 65 x.qu x.qs.length (x.qs.map QuantArg.cells).flatten := fun W hb => by
    have := (h.qs.el.below hb).ar
    rwa [List.length_map] at this
  have hcc := fun W hb => comp_clone x.cu x.cs.length _ (by omega) W (har W hb) (comp_one h.cs)
  have hqc := fun W hb => quant_clone x.qu x.qs.length _ (by omega) W (haq W hb) (quant_one x.qs)
  clear hN har haq
  go_enter Try.func26, Try.ntmps26
  go_upto_region 1 with fail
  rw [← HN.out]
  refine wp_world (fun W => Blk W N #[.int .i64 0, .int .i64 0, .slice none 0 0, .slice none 0 0, .slice none 0 0] 26 ∧ Below w.heap.size w W) ⟨Blk.new' _ _ _ HN.out, hbe⟩ ?_
  clear hbe
  rintro W ⟨bN, hB⟩
  go_upto_region 2 with (first | (go_at_call 71; refine (hcc _ hB).mono ?_; rintro r w1 ⟨cu, rfl, hR1, hb1⟩; have hB1 := hB.trans (hb1.mono hB.size); obtain ⟨cb, ccap, rfl⟩ := hR1.len) | (go_at_call 72; refine (hqc _ hB1).mono ?_; rintro r w2 ⟨qu, rfl, hR2, hb2⟩; obtain ⟨qb, qcap, rfl⟩ := hR2.len))
  obtain ⟨M, hM⟩ : ∃ M, M = w2.heap.size := ⟨_, rfl⟩
  rw [← hM]
  have hS : BkS N M ⟨x.w, x.h, .slice cb x.cs.length ccap, .slice qb x.qs.length qcap, .slice none 0 0, x.cs, x.qs, []⟩ w (w2.alloc (.cells #[.int .i64 x.w, .int .i64 x.h, .slice cb x.cs.length ccap, .slice qb x.qs.length qcap, .slice none 0 0] 26)) := by
    have hNl := bN.lt
    have hal := (Below.refl w2.heap.size w2).alloc (Nat.le_refl _) (.cells #[.int .i64 x.w, .int .i64 x.h, .slice cb x.cs.length ccap, .slice qb x.qs.length qcap, .slice none 0 0] 26)
    have hN1 : N < w1.heap.size := Nat.lt_of_lt_of_le hNl hb1.size
    have hN2 : N < w2.heap.size := Nat.lt_of_lt_of_le hN1 hb2.size
    refine ⟨((bN.below hb1 hNl).below hb2 hN1).alloc _, Blk.new' _ _ _ hM, ((hR1.down (Nat.le_of_lt hNl)).grow hb2).grow hal, (hR2.down (Nat.le_of_lt hN1)).grow hal, fun c hc => .inl (h.cs.ok c hc), h.qs.ok, by omega, HN.out, ?_⟩
    have := hB1.trans (hb2.mono hB1.size)
    rw [← HN.out] at this
    exact this.alloc (by omega) _
  refine wp_world (BkS N M ⟨x.w, x.h, .slice cb x.cs.length ccap, .slice qb x.qs.length qcap, .slice none 0 0, x.cs, x.qs, []⟩ w) hS ?_
  clear hS hR1 hR2 hb1 hb2 hB hB1 hcc hqc bN hM
  clear w1 w2 W
  intro W hS
  have hI := hS.img (by simp only; omega) (by simp only; omega) h.ww h.wh rfl rfl
  have hfr := img_frame _ W hI (by exact hc20)
  have efr : ∀ cu qu tu, frE ⟨x.w, x.h, cu, qu, tu, x.cs, x.qs, []⟩ = frE x := fun _ _ _ => rfl
  have egr : ∀ cu qu tu, frG ⟨x.w, x.h, cu, qu, tu, x.cs, x.qs, []⟩ = frG x := fun _ _ _ => rfl
  rw [efr, egr] at hfr
  unfold ImgArg.val at hfr
  simp only at hfr
  clear hI
  by_cases h0 : frE x = 0
  · have GOK := Lib.hid (fun k hk => frG_ok h0 (k := k) hk)
    have hgl := frG_len x
    rw [h0] at hfr
    have bM := hS.bM
    simp only at bM
    go_upto_region 3 with (first | (refine wpList_load_row rfl 26 _ rfl M rfl 26 _ _ _ bM Try.underlying26 rfl (by kernel_rfl) ?_) | (go_at_call 48; refine hfr.mono ?_; rintro r w1 ⟨f, rfl, hb1, -, hf2⟩; obtain ⟨F, rfl, hF, -⟩ := hf2 rfl))
    have hS1 := hS.below hb1
    clear hS hb1 hfr bM
    have q2 : w1.cell? ⟨M, 2, none⟩ = some (.slice cb x.cs.length ccap) := hS1.bM.cell 2
    go_wp2
    clear q2
    go_loopw [38] (fun iv wr => ∃ k : Nat, k ≤ x.cs.length ∧ iv = .int .i64 k ∧ ∃ cs, BlankTo x.cs (frG x) k cs ∧ BkS N M ⟨x.w, x.h, .slice cb x.cs.length ccap, .slice qb x.qs.length qcap, .slice none 0 0, cs, x.qs, []⟩ w wr ∧ IsFr wr F (frG x)) (fun iv _ => x.cs.length - (intOf iv).toNat)
    case atStart => exact ⟨0, Nat.zero_le _, rfl, x.cs, BlankTo.zero _ _, hS1, hF⟩
    case round =>
      clear hS1 hF
      obtain ⟨k, hk, rfl, cs, hT, hS, hF⟩ := hrel
      by_cases hlt : k < x.cs.length
      · have tl : decide (k < x.cs.length) = true := by simpa using hlt
        have hgk : k < (frG x).length := by omega
        obtain ⟨p1, p2, p3⟩ := GOK.out k hgk
        have hgrid := fun W h => fr_grid F (frG x) k hgk W h
        obtain ⟨gr, hgr⟩ : ∃ gr, (frG x)[k]'hgk = gr := ⟨_, rfl⟩
        rw [hgr] at p1 p2 p3 hgrid
        obtain ⟨g0, g1, g2, g3⟩ := gr
        simp only at p1 p2 p3 hgrid
        obtain ⟨cn, rfl⟩ : ∃ n : Nat, g0 = n := ⟨g0.toNat, by omega⟩
        obtain ⟨rn, rfl⟩ : ∃ n : Nat, g1 = n := ⟨g1.toNat, by omega⟩
        have hsz := sized_of p1 p2 p3
        have hcr : cn * rn ≤ 16384 := by
          have : ((cn * rn : Nat) : Int) ≤ 16384 := by rw [Int.natCast_mul]; exact p3
          exact Int.ofNat_le.1 this
        have hkc : k < cs.length := by rw [hT.len]; exact hlt
        have hgd : (frG x).getD k noGrid = ⟨cn, rn, g2, g3⟩ := by rw [← hgr]; simp [List.getD_eq_getElem?_getD, hgk]
        have HGD := Lib.hid hgd
        obtain ⟨g, cap', he, hlo, hgs, -⟩ := hS.row.cells (by simp only; omega)
        simp only [Value.slice.injEq] at he
        obtain ⟨rfl, -, rfl⟩ := he
        have hTs := Lib.hid (fun v => hT.step hkc ⟨cn, rn, g2, g3⟩ HGD.out v)
        have HP3 := Lib.hid p3
        have j0 : (0 : Int) ≤ (k : Int) := by omega
        have j1 : (k : Int) < (x.cs.length : Int) := by omega
        clear hgr hgd p3
        go_upto_region 9 with (first | (go_at_call 73; refine (hgrid _ hF).mono ?_; rintro r w2 ⟨rfl, hb2⟩; obtain ⟨P, hP⟩ : ∃ P, P = w2.heap.size := ⟨_, rfl⟩; have HP := Lib.hid hP; clear hP) | (refine wpList_store_row rfl 116 _ _ rfl P _ (by rw [HP.out]; rfl) rfl 116 _ (Blk.new' _ _ _ HP.out) (by kernel_rfl) rfl (by simp [Value.oneCell']) ?_))
        rw [← HP.out]
        have hbP : Below w2.heap.size w2 ((w2.alloc (.cells #[.int .i64 0, .int .i64 0, .int .i64 0, .int .i64 0] 116)).setRow P #[.int .i64 cn, .int .i64 rn, .int .i64 g2, .int .i64 g3]) := Below.setRow ((Below.refl _ _).alloc (Nat.le_refl _) _) (Nat.le_of_eq HP.out.symm) _
        refine wp_world (fun W => BkS N M ⟨x.w, x.h, .slice (some ⟨g, 0, none⟩) x.cs.length ccap, .slice qb x.qs.length qcap, .slice none 0 0, cs, x.qs, []⟩ w W ∧ IsFr W F (frG x) ∧ Blk W P #[.int .i64 cn, .int .i64 rn, .int .i64 g2, .int .i64 g3] 116) ⟨(hS.below hb2).below hbP, (hF.below hb2).below hbP, (Blk.new' _ _ _ HP.out).row _⟩ ?_
        clear hbP hb2 hS hF hgrid
        rintro W3 ⟨hS, hF, bP⟩
        have q0 := bP.cell 0
        have q1 := bP.cell 1
        have hpn := fun W => plane_new cn rn hsz W
        go_upto_region 10 with (go_at_call 74; refine (hpn _).mono ?_; rintro r w4 ⟨sb, su, rfl, hSh, hsb, hb4⟩)
        have hL := Lib.hid (Nat.le_trans (Nat.le_of_lt hS.bN.lt) (Nat.le_refl W3.heap.size))
        refine wp_world (fun W => BkS N M ⟨x.w, x.h, .slice (some ⟨g, 0, none⟩) x.cs.length ccap, .slice qb x.qs.length qcap, .slice none 0 0, cs, x.qs, []⟩ w W ∧ IsFr W F (frG x) ∧ Pl.Sheet W W3.heap.size sb cn rn su (List.replicate (cn * rn) (List.replicate 64 0))) ⟨hS.below hb4, hF.below hb4, hSh⟩ ?_
        clear hS hF bP q0 q1 hpn hSh hb4 hsb
        generalize W3.heap.size = L at *
        rintro W4 ⟨hS, hF, hSh⟩
        have hNW : N ≤ W4.heap.size := Nat.le_of_lt hS.bN.lt
        have hGm : ∀ W W', (BkS N M ⟨x.w, x.h, .slice (some ⟨g, 0, none⟩) x.cs.length ccap, .slice qb x.qs.length qcap, .slice none 0 0, cs, x.qs, []⟩ w W ∧ IsFr W F (frG x) ∧ Pl.Sheet W L sb cn rn su (List.replicate (cn * rn) (List.replicate 64 0))) → Below W.heap.size W W' → (BkS N M ⟨x.w, x.h, .slice (some ⟨g, 0, none⟩) x.cs.length ccap, .slice qb x.qs.length qcap, .slice none 0 0, cs, x.qs, []⟩ w W' ∧ IsFr W' F (frG x) ∧ Pl.Sheet W' L sb cn rn su (List.replicate (cn * rn) (List.replicate 64 0))) := fun W W' h hb => ⟨h.1.below hb, h.2.1.below hb, h.2.2.below hb⟩
        have hsp := fun W h => sheet_plane L sb cn rn su (List.replicate (cn * rn) (List.replicate 64 0)) hcr W h
        refine wp_region_mono [0, 1, 2, 3, 4, 5, 6] [7] (fun W => BkS N M ⟨x.w, x.h, .slice (some ⟨g, 0, none⟩) x.cs.length ccap, .slice qb x.qs.length qcap, .slice none 0 0, cs, x.qs, []⟩ w W ∧ IsFr W F (frG x) ∧ Pl.Sheet W L sb cn rn su (List.replicate (cn * rn) (List.replicate 64 0)))
          (fun | 4 => some (sRel (shPl cn rn (cn * rn)) (fPl (List.replicate (cn * rn) (List.replicate 64 0)))) | _ => none) (fun _ => []) (by kernel_rfl) (by kernel_rfl) (hGm _ _ ⟨hS, hF, hSh⟩ (Below.refl _ _).drew) ?_ ?_
        · intro i s hs
          match i with
          | 4 => cases hs; exact fun _ _ => fPl_mono _ _
        clear hS hF hSh
        simp only [pick, List.getD_cons_succ, List.getD_cons_zero, List.zip_cons_cons, List.zip_nil_right]
        (first | (refine mono_skip (by rfl) ?_; simp only [Act.put, List.setIfInBounds_toArray, List.set_cons_zero, List.set_cons_succ]) | (refine mono_pure (v := ?_) (by rfl) rfl ?_ ?_; rotate_left; (intro wS hS; go_simp; try with_reducible rfl); simp only [Act.put, List.setIfInBounds_toArray, List.set_cons_zero, List.set_cons_succ]))
        refine mono_pure (v := .slice (some ⟨g, 0, none⟩) x.cs.length ccap) (by rfl) rfl (fun w1 hG => by have cy : w1.cell? ⟨M, 2, none⟩ = some (.slice (some ⟨g, 0, none⟩) x.cs.length ccap) := hG.1.bM.cell 2; go_simp; try with_reducible rfl) ?_
        simp only [Act.put, List.setIfInBounds_toArray, List.set_cons_zero, List.set_cons_succ]
        (first | (refine mono_skip (by rfl) ?_; simp only [Act.put, List.setIfInBounds_toArray, List.set_cons_zero, List.set_cons_succ]) | (refine mono_pure (v := ?_) (by rfl) rfl ?_ ?_; rotate_left; (intro wS hS; go_simp; try with_reducible rfl); simp only [Act.put, List.setIfInBounds_toArray, List.set_cons_zero, List.set_cons_succ]))
        (first | (refine mono_skip (by rfl) ?_; simp only [Act.put, List.setIfInBounds_toArray, List.set_cons_zero, List.set_cons_succ]) | (refine mono_pure (v := ?_) (by rfl) rfl ?_ ?_; rotate_left; (intro wS hS; go_simp; try with_reducible rfl); simp only [Act.put, List.setIfInBounds_toArray, List.set_cons_zero, List.set_cons_succ]))
        refine mono_rel (shPl cn rn (cn * rn)) (fPl (List.replicate (cn * rn) (List.replicate 64 0))) (by rfl) rfl hGm (by intro w hG; go_simp; first | done | exact ⟨rfl, rfl⟩) ⟨_, none, 0, rfl⟩ (fun w1 hG hH => ?_) (fun v3 hv3 => ?_)
        · refine (hsp w1 hG.2.2).mono ?_
          rintro e w2 ⟨v, rfl, hR, hb⟩
          obtain ⟨bv, cv, rfl⟩ := hR.len
          exact ⟨_, rfl, ⟨bv, cv, by rw [List.length_replicate]⟩, hb, _, ⟨_, _, rfl⟩, hR, fun g e => (hR.lt g e).2⟩
        obtain ⟨bv, cv, rfl⟩ := hv3
        simp only [Act.put, List.setIfInBounds_toArray, List.set_cons_zero, List.set_cons_succ]
        (first | (refine mono_skip (by rfl) ?_; simp only [Act.put, List.setIfInBounds_toArray, List.set_cons_zero, List.set_cons_succ]) | (refine mono_pure (v := ?_) (by rfl) rfl ?_ ?_; rotate_left; (intro wS hS; go_simp; try with_reducible rfl); simp only [Act.put, List.setIfInBounds_toArray, List.set_cons_zero, List.set_cons_succ]))
        (first | (refine mono_skip (by rfl) ?_; simp only [Act.put, List.setIfInBounds_toArray, List.set_cons_zero, List.set_cons_succ]) | (refine mono_pure (v := ?_) (by rfl) rfl ?_ ?_; rotate_left; (intro wS hS; go_simp; try with_reducible rfl); simp only [Act.put, List.setIfInBounds_toArray, List.set_cons_zero, List.set_cons_succ]))
        refine mono_nil ?_
        rintro W5 ⟨hS, hF, hSh⟩ ⟨hbs, I, hI1, -⟩
        obtain ⟨i1, i2, i3, uu, ⟨ux, uy, hue⟩, hRr, hRl⟩ := hI1 4 _ (upd_self _ _ _)
        obtain rfl : uu = .slice bv (cn * rn) cv := by simp at hue; exact hue.2.2.symm
        clear hue hI1 hGm hsp
        have hput := hS.put (g := g) (cap := ccap) (by simp only; rw [hT.len]) (by simp only; rw [hT.len]; omega) hkc ⟨cn, rn, g2, g3⟩ p1 p2 HP3.out (.slice bv (cn * rn) cv) (hRr.down (Nat.le_trans hNW i1))
        have hkb : k * 7 + 7 ≤ cs.length * 7 := by omega
        have hrow := hS.row
        simp only at hrow
        rw [hT.len] at hrow hkb
        obtain ⟨⟨a4, c4⟩, f4⟩ := hrow.spot (i := k * 7 + 4) (by omega)
        have hrow2 := hrow.set (k * 7 + 4) (by omega) (.int .i64 cn)
        obtain ⟨⟨a5, c5⟩, f5⟩ := hrow2.spot (i := k * 7 + 5) (by omega)
        have hrow3 := hrow2.set (k * 7 + 5) (by omega) (.int .i64 rn)
        obtain ⟨⟨a6, c6⟩, f6⟩ := hrow3.spot (i := k * 7 + 6) (by omega)
        obtain ⟨cur, hbg⟩ := hrow.blk
        have hF3 := ((hF.other hbg (by decide) (by decide) (k * 7 + 4) (.int .i64 cn)).other (hbg.set _ _) (by decide) (by decide) (k * 7 + 5) (.int .i64 rn)).other ((hbg.set _ _).set _ _) (by decide) (by decide) (k * 7 + 6) (.slice bv (cn * rn) cv)
        clear hrow hrow2 hrow3 hbg
        go_wp2
        exact ⟨⟨k + 1, by omega, by go_num, _, hTs.out _, hput, hF3⟩, by simp [intOf]; omega⟩
      · obtain rfl : k = x.cs.length := by omega
        have tl : decide (x.cs.length < x.cs.length) = false := by simp
        obtain ⟨x1, hx1⟩ : ∃ x1 : ImgArg, x1 = ⟨x.w, x.h, .slice cb x.cs.length ccap, .slice qb x.qs.length qcap, .slice none 0 0, cs, x.qs, []⟩ := ⟨_, rfl⟩
        have few : FewOk x1 := by
          rw [hx1]
          refine ⟨by simp only; rw [hT.len]; exact hc20, hq20, by simp, fun c hc => ?_, by simp⟩
          obtain ⟨i, hi, rfl⟩ := List.getElem_of_mem hc
          simp only at hi
          have hix : i < x.cs.length := by rw [← hT.len]; exact hi
          have hCB := hT.lo i hix hix
          rw [comp_getD hi] at hCB
          have hig : i < (frG x).length := by omega
          obtain ⟨p1, p2, p3⟩ := GOK.out i hig
          rw [hCB.bs]
          unfold zeroBs
          rw [List.length_replicate]
          have e1 : (frG x).getD i noGrid = (frG x)[i]'hig := by simp [List.getD_eq_getElem?_getD, hig]
          rw [e1]
          generalize (frG x)[i]'hig = gr at *
          have : ((gr.c.toNat * gr.r.toNat : Nat) : Int) ≤ 16384 := by rw [Int.natCast_mul, Int.toNat_of_nonneg (by omega), Int.toNat_of_nonneg (by omega)]; exact p3
          omega
        have hB : BlankOf x x1 := by
          rw [hx1] at few ⊢
          exact ⟨rfl, rfl, rfl, rfl, hT, few⟩
        have himg : ∀ W, BkS N M x1 w W → IsImg W x1.val x1 := fun W h' => h'.img (by have := few.c20; omega) (by have := few.q20; omega) (by rw [hx1]; exact h.ww) (by rw [hx1]; exact h.wh) (by rw [hx1]) (by rw [hx1])
        rw [← hx1] at hS
        have hri := img_right x1 wr (himg wr hS) few
        have hv1 : x1.val = .agg #[.int .i64 x.w, .int .i64 x.h, .slice cb x.cs.length ccap, .slice qb x.qs.length qcap, .slice none 0 0] := by rw [hx1]; rfl
        have bM : Blk wr M #[.int .i64 x.w, .int .i64 x.h, .slice cb x.cs.length ccap, .slice qb x.qs.length qcap, .slice none 0 0] 26 := by have := hS.bM; rw [hx1] at this; exact this
        rw [hv1] at hri
        have HB := Lib.hid hB
        have HI := Lib.hid (fun W ds (h' : BkS N M x1 w W) => BkS.imgRow h' (by have := HB.out.few.c20; omega) (by have := HB.out.few.q20; omega) (by rw [HB.out.w]; exact h.ww) (by rw [HB.out.h]; exact h.wh) (by rw [hx1]) HB.out.ts ds)
        have HV := Lib.hid hv1
        clear hB himg hv1 hx1 few hT
        obtain ⟨E, hE⟩ : ∃ E, imgE x1 = E := ⟨_, rfl⟩
        rw [hE] at hri
        have HE := Lib.hid hE
        have H0 := Lib.hid h0
        clear hE h0
        by_cases he : E = 0
        · subst he
          go_wp2_with (first | (refine wpList_load_row rfl 26 _ rfl M rfl 26 _ _ _ bM Try.underlying26 rfl (by kernel_rfl) ?_) | (go_at_call 20; refine hri.mono ?_; rintro r w5 ⟨rfl, hb5⟩; replace bM := bM.below hb5 bM.lt; replace hS := hS.below hb5) | (refine wpList_store_row rfl 26 _ _ rfl N _ rfl rfl 26 _ hS.bN (by kernel_rfl) rfl (by simp [Value.oneCell']) ?_))
          refine bodyPost_ret (results_row_tmp rfl _ _ N 26 _ _ rfl (hS.bN.row _) Try.underlying26 rfl (by kernel_rfl)) rfl ?_
          exact ⟨_, _, rfl, Below.setRow hS.hB (Nat.le_refl _) _, fun h => absurd H0.out h, fun _ => ⟨x1, HB.out, HE.out.symm, fun h => absurd rfl h, fun _ => ⟨HV.out.symm, HI.out _ _ hS⟩⟩⟩
        · have te : (E != 0) = true := by simpa using he
          have HN0 := Lib.hid he
          clear he
          go_wp2_with (first | (refine wpList_load_row rfl 26 _ rfl M rfl 26 _ _ _ bM Try.underlying26 rfl (by kernel_rfl) ?_) | (go_at_call 20; refine hri.mono ?_; rintro r w5 ⟨rfl, hb5⟩; replace bM := bM.below hb5 bM.lt; replace hS := hS.below hb5) | (refine wpList_store_row rfl 26 _ _ rfl N _ rfl rfl 26 _ hS.bN (by kernel_rfl) rfl (by simp [Value.oneCell']) ?_))
          refine bodyPost_ret (results_row_tmp rfl _ _ N 26 _ _ rfl (hS.bN.row _) Try.underlying26 rfl (by kernel_rfl)) rfl ?_
          exact ⟨_, _, rfl, Below.setRow hS.hB (Nat.le_refl _) _, fun h => absurd H0.out h, fun _ => ⟨x1, HB.out, HE.out.symm, fun _ => rfl, fun h => absurd h HN0.out⟩⟩
  · have te : (frE x != 0) = true := by simpa using h0
    obtain ⟨E, hE⟩ : ∃ E, frE x = E := ⟨_, rfl⟩
    rw [hE] at hfr te h0
    have HE := Lib.hid hE
    clear hE
    have bM := hS.bM
    simp only at bM
    have H0 := Lib.hid h0
    clear h0
    go_wp2_with (first | (refine wpList_load_row rfl 26 _ rfl M rfl 26 _ _ _ bM Try.underlying26 rfl (by kernel_rfl) ?_) | (go_at_call 48; refine hfr.mono ?_; rintro r w1 ⟨f, rfl, hb1, hf1, -⟩; obtain rfl := hf1 H0.out; have bN' := hS.bN.below hb1 hS.bN.lt; have hB' := hS.hB.trans (hb1.mono (Nat.le_of_lt hS.bN.lt))) | (refine wpList_store_row rfl 26 _ _ rfl N _ rfl rfl 26 _ bN' (by kernel_rfl) rfl (by simp [Value.oneCell']) ?_))
    refine bodyPost_ret (results_row_tmp rfl _ _ N 26 _ _ rfl (bN'.row _) Try.underlying26 rfl (by kernel_rfl)) rfl ?_
    exact ⟨_, _, rfl, Below.setRow hB' (Nat.le_refl _) _, fun _ => ⟨HE.out.symm, rfl⟩, fun h => absurd (HE.out.symm.trans h) H0.out⟩
end Go.Proofs.Ytgmhhocpdfdplaa
/- The example of the statements on images: its walk. -/
namespace Go.Proofs.Ytgmhhocpdfdplaa
open Go.RowKit
set_option maxRecDepth 100000
set_option maxHeartbeats 8000000
def onesTo (i : Nat) : List Int := List.replicate i 1 ++ List.replicate (64 - i) 0
def qOnes (i : Nat) : QuantArg := ⟨0, onesTo i⟩
theorem onesTo_len {i : Nat} (h : i ≤ 64) : (onesTo i).length = 64 := by simp [onesTo]; omega
theorem qOnes_size {i : Nat} (h : i ≤ 64) : (qOnes i).arr.size = 65 := by simp [QuantArg.arr, QuantArg.cells, qOnes, onesTo_len h]
theorem qOnes_step {i : Nat} (h : i < 64) : (qOnes i).arr.setIfInBounds (1 + i) (.int .u16 1) = (qOnes (i + 1)).arr := by
  have e : (onesTo i).set i 1 = onesTo (i + 1) := by
    unfold onesTo
    rw [List.set_append_right _ _ (by simp), List.length_replicate, Nat.sub_self, show 64 - i = (64 - (i + 1)) + 1 by omega, List.replicate_succ, List.set_cons_zero, List.replicate_succ', List.append_assoc]
    rfl
  unfold QuantArg.arr QuantArg.cells qOnes
  rw [List.setIfInBounds_toArray, Nat.add_comm, List.set_cons_succ, ← e, List.map_set]
theorem run_slice_quant {o : Oper} {a : Act} {w : World} (x : Operand) (ho : o.op = .buildSlice 23 1 #[(0, x)]) (q : Array Value) (hx : a.eval x = .agg q) (hq : q.size = 65) :
    (execOp a.eval o).run Try.prog w = .ok (.value (.slice (some ⟨w.heap.size, 0, none⟩) 1 1)) (w.alloc (.cells q 39)) := by
  obtain ⟨i, hi⟩ : ∃ i, Try.prog.info? 39 = some i := ⟨_, rfl⟩
  have h3 : (Try.prog.info? 39).map (fun i => i.size) = some 65 := by kernel_rfl
  have h4 : (Try.prog.info? 39).bind (fun i => i.zero) = some (.agg (qOnes 0).arr) := by kernel_rfl
  have h5 := qOnes_size (i := 0) (by simp)
  generalize (qOnes 0).arr = z at *
  rw [hi] at h3 h4
  simp only [Option.map_some, Option.some.injEq, Option.bind_some] at h3 h4
  have hf := Great.fill_whole (s := i.size) (by omega) [Value.agg q] ((Array.range (1 * i.size)).map ((Value.agg z).cells[· % (Value.agg z).cells.size]!))
    (by intro v hv; simp only [List.mem_singleton] at hv; subst hv; simp [Value.cells, hq, h3]) (by simp)
  have he : ([Value.agg q].flatMap fun v => v.cells.toList).toArray = q := by simp [Value.cells]
  rw [he] at hf
  unfold execOp
  simp only [ho, Sem.run_bind]
  rw [run_buildSlice w 23 39 1 _ q i _ Try.underlying23 hi h4 (by omega) (by omega) (by simpa [hx] using hf)]
  rfl
def awC (c r : Int) (u : Value) (bs : List (List Int)) : CompArg := ⟨1, 1, 1, 0, c, r, u, bs⟩
def awX (cu qu : Value) : ImgArg := ⟨9, 8, cu, qu, .slice none 0 0, [awC 0 0 (.slice none 0 0) []], [qOnes 64], []⟩
def aw1 (cu qu tu u : Value) : ImgArg := ⟨9, 8, cu, qu, tu, [awC 2 1 u [List.replicate 64 0, List.replicate 64 0]], [qOnes 64], []⟩
theorem aw_fr (cu qu : Value) : frE (awX cu qu) = 0 := by rfl
theorem aw_g (cu qu : Value) : frG (awX cu qu) = [⟨2, 1, 2, 1⟩] := by rfl
theorem aw_e (cu qu tu u : Value) : imgE (aw1 cu qu tu u) = 0 := by rfl
theorem aw_size (cu qu tu u : Value) : sizeN (aw1 cu qu tu u) = 468 := by rfl
theorem aw_few (cu qu : Value) : FewOk (awX cu qu) := ⟨by simp [awX], by simp [awX], by simp [awX], fun c hc => by simp [awX] at hc; subst hc; simp [awC], fun t ht => by simp [awX] at ht⟩
theorem aw_few1 (cu qu tu u : Value) : FewOk (aw1 cu qu tu u) := ⟨by simp [aw1], by simp [aw1], by simp [aw1], fun c hc => by simp [aw1] at hc; subst hc; simp [awC], fun t ht => by simp [aw1] at ht⟩
theorem aw_img {W : World} {c q : Nat} (h1 : Blk W c #[.int .i64 1, .int .i64 1, .int .i64 1, .int .i64 0, .int .i64 0, .int .i64 0, .slice none 0 0] 63) (h2 : Blk W q (qOnes 64).arr 39) :
    IsImg W (awX (.slice (some ⟨c, 0, none⟩) 1 1) (.slice (some ⟨q, 0, none⟩) 1 1)).val (awX (.slice (some ⟨c, 0, none⟩) 1 1) (.slice (some ⟨q, 0, none⟩) 1 1)) := by
  have r1 : Row W 0 63 7 (.slice (some ⟨c, 0, none⟩) 1 1) 1 (([awC 0 0 (.slice none 0 0) []].map CompArg.cells).flatten) := ⟨rfl, .inr ⟨c, 1, _, rfl, Nat.zero_le _, h1, Nat.le_refl _, by simp [maxLen], by simp, by simp [awC, CompArg.cells]⟩⟩
  have hs := qOnes_size (i := 64) (by decide)
  have r2 : Row W 0 39 65 (.slice (some ⟨q, 0, none⟩) 1 1) 1 (([qOnes 64].map QuantArg.cells).flatten) := ⟨by simpa [QuantArg.arr] using hs, .inr ⟨q, 1, _, rfl, Nat.zero_le _, h2, Nat.le_refl _, by simp [maxLen], by rw [hs]; decide, by
    have hl : (qOnes 64).cells.length = 65 := by simpa [QuantArg.arr] using hs
    simp only [QuantArg.arr, List.map_cons, List.map_nil, List.flatten_cons, List.flatten_nil, List.append_nil]
    rw [List.take_of_length_le (by omega)]⟩⟩
  refine ⟨rfl, by rfl, by rfl, ⟨Ar.elems r1.ar (fun c hc => by obtain ⟨p, _, rfl⟩ := List.mem_map.1 hc; rfl) rfl (by simp [maxLen]), fun x hx => ?_⟩, ⟨Ar.elems r2.ar (fun c hc => by simp [awX] at hc; subst hc; simpa [QuantArg.arr] using hs) rfl (by simp [maxLen]), fun x hx => ?_⟩, ⟨Ar.elems (Ar.nil _ 2) (by simp [awX]) rfl (by simp), by simp [awX]⟩⟩
  · simp only [awX, List.mem_singleton] at hx
    subst hx
    exact ⟨Ar.nil _ _, fun b hb => by simp [awC] at hb, fun b hb => by simp [awC] at hb, rfl, rfl, rfl, rfl, rfl, rfl⟩
  · simp only [awX, List.mem_singleton] at hx
    subst hx
    refine ⟨rfl, onesTo_len (by decide), fun y hy => ?_⟩
    have : y = 1 := by
      have h0 : onesTo 64 = List.replicate 64 1 := by rfl
      have hy' : y ∈ onesTo 64 := hy
      rw [h0] at hy'
      exact List.eq_of_mem_replicate hy'
    subst this
    rfl
theorem aw_res {cu qu v : Value} {e : Int} {w : World} (h : BlankRes (awX cu qu) v e w) :
    e = 0 ∧ ∃ cb ccap qb qcap tb tcap u, v = .agg #[.int .i64 9, .int .i64 8, .slice cb 1 ccap, .slice qb 1 qcap, .slice tb 0 tcap] ∧ IsImg w v (aw1 (.slice cb 1 ccap) (.slice qb 1 qcap) (.slice tb 0 tcap) u) := by
  obtain ⟨x1, hB, he, -, h2⟩ := h.2 (aw_fr _ _)
  obtain ⟨xw, xh, xcu, xqu, xtu, xcs, xqs, xts⟩ := x1
  obtain ⟨hw, hh, hq, ht, hc, -⟩ := hB
  simp only at hw hh hq ht hc
  subst hw hh hq ht
  obtain ⟨hlen, hlo, -⟩ := hc
  obtain ⟨c, rfl⟩ : ∃ c, xcs = [c] := by
    match xcs, hlen with
    | [c], _ => exact ⟨c, rfl⟩
  have hcb := hlo 0 (by simp [awX]) (by simp [awX])
  rw [aw_g] at hcb
  obtain ⟨cid, ch, cv, cq, cc, cr, cu1, cbs⟩ := c
  obtain ⟨g1, g2, g3, g4, g5, g6, g7⟩ := hcb
  simp [awX, awC, zeroBs] at g1 g2 g3 g4 g5 g6 g7
  subst g1 g2 g3 g4 g5 g6 g7
  have he0 : e = 0 := by rw [he]; exact aw_e xcu xqu xtu cu1
  refine ⟨he0, ?_⟩
  obtain ⟨hv, hI⟩ := h2 he0
  obtain ⟨cb, ccap, rfl⟩ : ∃ b cap, xcu = .slice b 1 cap := hI.cs.len
  obtain ⟨qb, qcap, rfl⟩ : ∃ b cap, xqu = .slice b 1 cap := hI.qs.len
  obtain ⟨tb, tcap, rfl⟩ : ∃ b cap, xtu = .slice b 0 cap := hI.ts.len
  subst hv
  exact ⟨cb, ccap, qb, qcap, tb, tcap, cu1, rfl, hI⟩
theorem awake11a (w : World) : Calls Try.prog 18 #[] w fun e w' => e = .returned (.bool true) ∧ Below w.heap.size w w' := by
  obtain ⟨P, hP⟩ : ∃ P, P = w.heap.size := ⟨_, rfl⟩
  have HP := Lib.hid hP
  rw [← hP]
  clear hP
  go_enter Try.func18, Try.ntmps18
  go_upto_region 2 with (first | refine wpList_buildTo rfl 39 _ rfl (some 7) rfl (qOnes 0).arr (by kernel_rfl) ?_ | refine wpList_allocTo rfl (some 1) rfl _ _ (run_alloc_quant _ rfl) ?_ | refine wpList_store_rowTo rfl 39 _ _ rfl rfl P (qOnes 0).arr (by rw [HP.out]; rfl) rfl 39 zeroQuant (Blk.new' _ _ _ HP.out) (by rw [qOnes_size (by decide)]; kernel_rfl) (by rw [zeroQuant_size, qOnes_size (by decide)]) (QuantArg.arr_one _) ?_)
  rw [← HP.out]
  refine wp_world (fun W => Blk W P (qOnes 0).arr 39 ∧ Below P w W) ⟨(Blk.new' _ _ _ HP.out).row _, by rw [HP.out]; exact Below.setRow ((Below.refl _ _).alloc (Nat.le_refl _) _) (Nat.le_refl _) _⟩ ?_
  rintro W ⟨bP, hB⟩
  go_wp2
  go_loopw [2] (fun iv wr => ∃ i : Nat, i ≤ 64 ∧ iv = .int .i64 i ∧ Blk wr P (qOnes i).arr 39 ∧ Below P w wr) (fun iv _ => 64 - (intOf iv).toNat)
  case atStart => exact ⟨0, by decide, rfl, bP, hB⟩
  case round =>
    clear bP hB
    obtain ⟨i, hi, rfl, bP, hB⟩ := hrel
    by_cases hlt : i < 64
    · have tl : decide ((i : Int) < 64) = true := by simp; omega
      have j0 : (0 : Int) ≤ (i : Int) := by omega
      have j1 : (i : Int) < 64 := by omega
      have q : ∃ a, wr.cell? ⟨P, 1 + i, none⟩ = some a := ⟨_, (bP.cell _).trans (Array.getElem?_eq_getElem (by rw [qOnes_size hi]; omega))⟩
      obtain ⟨qa, q⟩ := q
      have f := bP.free (1 + i)
      have hset := bP.set (1 + i) (.int .u16 1)
      rw [qOnes_step hlt] at hset
      go_wp2
      go_roundw
      case rel => exact ⟨i + 1, by omega, by go_num, hset, hB.setCell (Nat.le_refl _) _⟩
      case measure => simp [intOf]; omega
    · obtain rfl : i = 64 := by omega
      have tl : decide ((64 : Int) < 64) = false := rfl
      go_upto_region 7 with (first | (refine wpList_load_row rfl 39 _ rfl P rfl 39 _ _ _ (bP.alloc _) Try.underlying39 rfl (by rw [qOnes_size (by decide)]; kernel_rfl) ?_) | (refine Great.wpList_runTo rfl _ rfl _ _ (run_slice_quant _ rfl _ rfl (qOnes_size (by decide))) ?_) | (go_at_call 26; refine (img_blank (awX _ _) (aw_few _ _) _ (aw_img ((Blk.new _ _ _).alloc _) (Blk.new' _ _ _ (by simp)))).mono ?_; rintro r w5 ⟨v, e, rfl, hb5, hres⟩; obtain ⟨rfl, cb, ccap, qb, qcap, tb, tcap, u, rfl, hI⟩ := aw_res hres))
      obtain ⟨M, hM⟩ : ∃ M, M = w5.heap.size := ⟨_, rfl⟩
      rw [← hM]
      have hPl := bP.lt
      have hB5 : Below P w w5 := ((hB.alloc (Nat.le_of_lt hPl) _).alloc (by simp; omega) _).trans (hb5.mono (by simp; omega))
      have hsz : P ≤ w5.heap.size := Nat.le_trans (by simp; omega) hb5.size
      refine wp_world (fun W => Blk W M #[.int .i64 9, .int .i64 8, .slice cb 1 ccap, .slice qb 1 qcap, .slice tb 0 tcap] 26 ∧ IsImg W (.agg #[.int .i64 9, .int .i64 8, .slice cb 1 ccap, .slice qb 1 qcap, .slice tb 0 tcap]) (aw1 (.slice cb 1 ccap) (.slice qb 1 qcap) (.slice tb 0 tcap) u) ∧ Below P w W) ⟨Blk.new' _ _ _ hM, hI.below ((Below.refl _ _).alloc (Nat.le_refl _) _), hB5.alloc hsz _⟩ ?_
      have hPM : P ≤ M := by rw [hM]; exact hsz
      clear hI hb5 hM hB5 hsz bP hB hres hPl
      rintro W6 ⟨bM, hI, hB⟩
      have hsz := img_size_ok _ _ W6 hI (aw_few1 _ _ _ _) (fun W h => by
        have := img_right (aw1 (.slice cb 1 ccap) (.slice qb 1 qcap) (.slice tb 0 tcap) u) W h (aw_few1 (.slice cb 1 ccap) (.slice qb 1 qcap) (.slice tb 0 tcap) u)
        rwa [aw_e] at this)
      rw [aw_size] at hsz
      obtain ⟨a, ha, c0, c1, c2, c3, c4, c5, c6⟩ := IsComps.at (b := cb) (cap := ccap) (xs := [awC 2 1 u [List.replicate 64 0, List.replicate 64 0]]) hI.cs (i := 0) (by simp)
      obtain ⟨ub, ucap, hu, -⟩ := (hI.cs.ok (awC 2 1 u [List.replicate 64 0, List.replicate 64 0]) (by simp [aw1])).ar.len
      have hu2 : u = .slice ub 2 ucap := hu
      subst hu2
      subst ha
      have hcs := hI.cs
      go_upto_region 8 with (first | (refine wpList_load_row rfl 26 _ rfl M rfl 26 _ _ _ bM Try.underlying26 rfl (by kernel_rfl) ?_) | (go_at_call 21; refine hsz.mono ?_; rintro r w7 ⟨rfl, hb7⟩))
      have m2 : w7.cell? ⟨M, 2, none⟩ = some (.slice (some a) 1 ccap) := (bM.below hb7 bM.lt).cell 2
      have k6 : w7.cell? ⟨a.block, a.off + 4 + 2, none⟩ = some (.slice ub 2 ucap) := by
        obtain ⟨a', ha', -, -, -, -, -, -, c6⟩ := IsComps.at (b := some a) (cap := ccap) (xs := [awC 2 1 (.slice ub 2 ucap) [List.replicate 64 0, List.replicate 64 0]]) (hI.cs.below hb7) (i := 0) (by simp)
        cases ha'
        have e : a.add (0 * 7) = a := by rw [Nat.zero_mul]; obtain ⟨ab, ao, ae⟩ := a; cases ae <;> rfl
        rw [e] at c6
        exact c6
      have hC := hB.trans (hb7.mono (Nat.le_of_lt (Nat.lt_of_le_of_lt hPM bM.lt)))
      clear c0 c1 c2 c3 c4 c5 c6 hcs bM hI hB
      go_wp2
      go_ret
      exact ⟨rfl, hC⟩
end Go.Proofs.Ytgmhhocpdfdplaa
/- The statements on images: what stands while they run. -/
namespace Go.Proofs.Ytgmhhocpdfdplaa
open Go.RowKit
set_option maxRecDepth 100000
theorem run_exec_build {P : Program} {o : Oper} {a : Act} {w : World} (t : TypeId) (parts : Array (Nat × Operand)) (ho : o.op = .build t parts) (cells : Array Value)
    (hf : P.built t (parts.map fun (i, x) => (i, a.eval x)).toList = some cells) : (execOp a.eval o).run P w = .ok (.value (.agg cells)) w := by
  unfold execOp
  simp only [ho, Sem.run_bind, run_build w t _ cells hf, Result.andThen_ok, Sem.run_pure]
/-- The image x in block N. -/
structure LI (N : Nat) (x : ImgArg) (w W : World) : Prop where
  bN : Blk W N #[.int .i64 x.w, .int .i64 x.h, x.cu, x.qu, x.tu] 26
  img : IsImg W (.agg #[.int .i64 x.w, .int .i64 x.h, x.cu, x.qu, x.tu]) x
  hM : w.heap.size ≤ N
  hB : Below w.heap.size w W
theorem LI.below {N : Nat} {x : ImgArg} {w W W' : World} (h : LI N x w W) (hb : Below W.heap.size W W') : LI N x w W' :=
  ⟨h.bN.below hb h.bN.lt, h.img.below hb, h.hM, h.hB.trans (hb.mono h.hB.size)⟩
theorem LI.begin {x : ImgArg} {w : World} (h : IsImg w x.val x) : LI w.heap.size x w (w.alloc (.cells #[.int .i64 x.w, .int .i64 x.h, x.cu, x.qu, x.tu] 26)) :=
  ⟨Blk.new _ _ _, h.below ((Below.refl _ _).alloc (Nat.le_refl _) _), Nat.le_refl _, (Below.refl _ _).alloc (Nat.le_refl _) _⟩
end Go.Proofs.Ytgmhhocpdfdplaa
