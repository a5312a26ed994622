/- Package image: what Blank makes, in plain words; the image while it is made. -/
import Derived.Test.YtgmhhocpdfdplaaRightE
import Derived.Test.YtgmhhocpdfdplaaSheet2
namespace Go.Proofs.Ytgmhhocpdfdplaa
open Go.RowKit
set_option maxRecDepth 100000
theorem wf64 (z : Int) (h1 : -9223372036854775808 ≤ z) (h2 : z ≤ 9223372036854775807) : (Lit.int .i64 z).wf = true := by
  show (decide (IntKind.i64.min ≤ z) && decide (z ≤ IntKind.i64.max)) = true
  rw [decide_eq_true (show IntKind.i64.min ≤ z from h1), decide_eq_true (show z ≤ IntKind.i64.max from h2)]
  rfl
theorem upI_pos {a b : Int} (ha : 1 ≤ a) (hb : 1 ≤ b) : 1 ≤ upI a b := by
  unfold upI
  exact (Int.le_ediv_iff_mul_le (by omega)).2 (by omega)
theorem smN_term {f : Nat → Int} : ∀ n, (∀ j, j < n → 0 ≤ f j) → 0 ≤ smN f n ∧ ∀ k, k < n → f k ≤ smN f n
  | 0, _ => ⟨Int.le_refl _, fun k hk => absurd hk (by omega)⟩
  | n + 1, h => by
    have ih := smN_term n (fun j hj => h j (by omega))
    have hn := h n (by omega)
    simp only [smN]
    refine ⟨by omega, fun k hk => ?_⟩
    by_cases hkn : k = n
    · subst hkn; omega
    · have := ih.2 k (by omega); omega
theorem sized_of {c r : Int} (hc : 1 ≤ c) (hr : 1 ≤ r) (h : c * r ≤ 16384) : Pl.sized c r = 0 := by
  unfold Pl.sized
  rw [if_neg (by omega), if_neg]
  have h1 : c * 1 ≤ c * r := Int.mul_le_mul_of_nonneg_left hr (by omega)
  have h2 : r ≤ 16384 / c := (Int.le_ediv_iff_mul_le (by omega)).2 (by rw [Int.mul_comm]; exact h)
  omega
/-- The grids of a frame that is right. -/
theorem grid_ok {x y : Int} {qs : List (Int × Int)} (h : FrOk x y qs) (ht : totN x y qs ≤ 16384) {k : Nat} (hk : k < (gridsN x y qs).length) :
    1 ≤ ((gridsN x y qs)[k]'hk).c ∧ 1 ≤ ((gridsN x y qs)[k]'hk).r ∧ ((gridsN x y qs)[k]'hk).c * ((gridsN x y qs)[k]'hk).r ≤ 16384 := by
  have hkq : k < qs.length := by simpa [gridsN] using hk
  have ha : 1 ≤ acN x qs := upI_pos h.x1 (by have := h.hh; omega)
  have hd : 1 ≤ dnN y qs := upI_pos h.y1 (by have := h.vv; omega)
  have hterm : ∀ j, j < qs.length → 1 ≤ acN x qs * hA qs j ∧ 1 ≤ dnN y qs * vA qs j := fun j hj => by
    have hp := h.ps j hj
    have h1 : 1 * 1 ≤ acN x qs * hA qs j := Int.mul_le_mul ha hp.1 (by decide) (by omega)
    have h2 : 1 * 1 ≤ dnN y qs * vA qs j := Int.mul_le_mul hd hp.2.2.1 (by decide) (by omega)
    omega
  have hs := (smN_term (f := fun k => (acN x qs * hA qs k) * (dnN y qs * vA qs k)) qs.length (fun j hj => Int.mul_nonneg (by have := hterm j hj; omega) (by have := hterm j hj; omega))).2 k hkq
  have e : (gridsN x y qs)[k]'hk = gridP x y (hhN qs) (vvN qs) (acN x qs) (dnN y qs) (qs[k]'hkq) := by simp [gridsN]
  have e1 : (qs[k]'hkq).1 = hA qs k := by simp [hA, List.getD_eq_getElem?_getD, hkq]
  have e2 : (qs[k]'hkq).2 = vA qs k := by simp [vA, List.getD_eq_getElem?_getD, hkq]
  rw [e]
  simp only [gridP]
  rw [e1, e2]
  exact ⟨(hterm k hkq).1, (hterm k hkq).2, Int.le_trans hs ht⟩
theorem newE_zero {x y : Int} {ps : List (Int × Int)} (h : newE x y ps = 0) : FrOk x y (partsOf ps) ∧ totN x y (partsOf ps) ≤ 16384 := by
  unfold newE at h
  split at h
  · rename_i h1; exact absurd h h1
  · rename_i h1
    split at h
    · cases h
    · split at h
      · cases h
      · rename_i h3
        exact ⟨(rightE_ok (by simpa using h1)).parts, by omega⟩
theorem frG_ok {x : ImgArg} (h : frE x = 0) {k : Nat} (hk : k < (frG x).length) : 1 ≤ ((frG x)[k]'hk).c ∧ 1 ≤ ((frG x)[k]'hk).r ∧ ((frG x)[k]'hk).c * ((frG x)[k]'hk).r ≤ 16384 := by
  obtain ⟨h1, h2⟩ := newE_zero h
  exact grid_ok h1 h2 hk
/-- A component's plane of noughts. -/
def zeroBs (g : GridV) : List (List Int) := List.replicate (g.c.toNat * g.r.toNat) (List.replicate 64 0)
structure CB (x0 : CompArg) (g : GridV) (x : CompArg) : Prop where
  id : x.id = x0.id
  h : x.h = x0.h
  v : x.v = x0.v
  q : x.q = x0.q
  c : x.c = g.c
  r : x.r = g.r
  bs : x.bs = zeroBs g
def noGrid : GridV := ⟨0, 0, 0, 0⟩
/-- The first k components have planes of noughts. -/
structure BlankTo (c0 : List CompArg) (gs : List GridV) (k : Nat) (cs : List CompArg) : Prop where
  len : cs.length = c0.length
  lo : ∀ i, i < k → i < c0.length → CB (c0.getD i noComp) (gs.getD i noGrid) (cs.getD i noComp)
  hi : ∀ i, k ≤ i → cs.getD i noComp = c0.getD i noComp
theorem BlankTo.zero (c0 : List CompArg) (gs : List GridV) : BlankTo c0 gs 0 c0 := ⟨rfl, fun i hi => absurd hi (by omega), fun _ _ => rfl⟩
def putP (x : CompArg) (g : GridV) (u : Value) : CompArg := ⟨x.id, x.h, x.v, x.q, g.c, g.r, u, zeroBs g⟩
theorem getD_set_self (cs : List CompArg) (k : Nat) (c : CompArg) (hk : k < cs.length) : (cs.set k c).getD k noComp = c := by simp [List.getD_eq_getElem?_getD, hk]
theorem getD_set_other (cs : List CompArg) (k i : Nat) (c : CompArg) (hk : k ≠ i) : (cs.set k c).getD i noComp = cs.getD i noComp := by simp [List.getD_eq_getElem?_getD, List.getElem?_set_ne hk]
theorem BlankTo.step {c0 : List CompArg} {gs : List GridV} {k : Nat} {cs : List CompArg} (h : BlankTo c0 gs k cs) (hk : k < cs.length) (g : GridV) (hg : gs.getD k noGrid = g) (u : Value) :
    BlankTo c0 gs (k + 1) (cs.set k (putP (cs[k]'hk) g u)) := by
  have e0 : cs[k]'hk = c0.getD k noComp := by rw [← h.hi k (Nat.le_refl _)]; simp [List.getD_eq_getElem?_getD, hk]
  refine ⟨by rw [List.length_set, h.len], fun i hi hic => ?_, fun i hi => ?_⟩
  · by_cases hik : i = k
    · subst hik
      rw [getD_set_self _ _ _ hk, hg, e0]
      exact ⟨rfl, rfl, rfl, rfl, rfl, rfl, rfl⟩
    · rw [getD_set_other _ _ _ _ (fun e => hik e.symm)]
      exact h.lo i (by omega) hic
  · rw [getD_set_other _ _ _ _ (by omega)]
    exact h.hi i (by omega)
/-- A cell of a row replaced. -/
theorem Row.set {w : World} {lo : Nat} {e : TypeId} {size n g cap : Nat} {xs : List Value} (h : Row w lo e size (.slice (some ⟨g, 0, none⟩) n cap) n xs) (i : Nat) (_hi : i < n * size) (v : Value) :
    Row (w.setCell ⟨g, i, none⟩ v) lo e size (.slice (some ⟨g, 0, none⟩) n cap) n (xs.set i v) := by
  refine ⟨by rw [List.length_set]; exact h.1, ?_⟩
  rcases h.2 with ⟨h0, _⟩ | ⟨g', cap', cur, h0, h2, h3, h4, h5, h6, h7⟩
  · cases h0
  · cases h0
    refine .inr ⟨g, cap, _, rfl, h2, h3.set i v, h4, h5, by simpa using h6, ?_⟩
    rw [← h7]
    rw [Array.toList_setIfInBounds, List.take_set]
theorem flat_set {L : List CompArg} {k : Nat} (hk : k < L.length) (a b c : Value) (x : CompArg) (hx : x.cells = [.int .i64 (L[k]'hk).id, .int .i64 (L[k]'hk).h, .int .i64 (L[k]'hk).v, .int .i64 (L[k]'hk).q, a, b, c]) :
    ((((L.map CompArg.cells).flatten.set (k * 7 + 4) a).set (k * 7 + 5) b).set (k * 7 + 6) c) = ((L.set k x).map CompArg.cells).flatten := by
  have e1 : L = L.take k ++ (L[k]'hk) :: L.drop (k + 1) := by
    rw [← List.drop_eq_getElem_cons hk, List.take_append_drop]
  have e2 : L.set k x = L.take k ++ x :: L.drop (k + 1) := by rw [List.set_eq_take_append_cons_drop, if_pos hk]
  rw [e2, List.map_append, List.flatten_append, List.map_cons, List.flatten_cons, hx]
  have e3 : (L.map CompArg.cells).flatten = ((L.take k).map CompArg.cells).flatten ++ ((L[k]'hk).cells ++ ((L.drop (k + 1)).map CompArg.cells).flatten) := by
    conv => lhs; rw [e1]
    rw [List.map_append, List.flatten_append, List.map_cons, List.flatten_cons]
  have hlA : ((L.take k).map CompArg.cells).flatten.length = k * 7 := by
    have : ∀ M : List CompArg, (M.map CompArg.cells).flatten.length = M.length * 7 := fun M => by
      induction M with
      | nil => rfl
      | cons c M ih => rw [List.map_cons, List.flatten_cons, List.length_append, ih]; simp [CompArg.cells]; omega
    rw [this, List.length_take, Nat.min_eq_left (by omega)]
  rw [e3]
  generalize ((L.take k).map CompArg.cells).flatten = A at *
  generalize ((L.drop (k + 1)).map CompArg.cells).flatten = B at *
  rw [List.set_append_right _ _ (by omega), List.set_append_right _ _ (by omega), List.set_append_right _ _ (by omega), hlA]
  rw [show k * 7 + 4 - k * 7 = 4 by omega, show k * 7 + 5 - k * 7 = 5 by omega, show k * 7 + 6 - k * 7 = 6 by omega]
  rfl
def PlK (N : Nat) (w W : World) (c : CompArg) : Prop := c.Ok w ∨ (Row W N 57 64 c.u c.bs.length (bcells c.bs) ∧ ∀ W', Ar W' 64 c.u c.bs.length (bcells c.bs) → c.Ok W')
/-- The image while it is made. -/
structure BkS (N M : Nat) (x : ImgArg) (w W : World) : Prop where
  bN : Blk W N #[.int .i64 0, .int .i64 0, .slice none 0 0, .slice none 0 0, .slice none 0 0] 26
  bM : Blk W M #[.int .i64 x.w, .int .i64 x.h, x.cu, x.qu, .slice none 0 0] 26
  row : Row W N 63 7 x.cu x.cs.length (x.cs.map CompArg.cells).flatten
  qrow : Row W N 39 65 x.qu x.qs.length (x.qs.map QuantArg.cells).flatten
  pl : ∀ c ∈ x.cs, PlK N w W c
  qok : ∀ q ∈ x.qs, q.Ok
  hM : N < M
  hN : N = w.heap.size
  hB : Below N w W
theorem BkS.below {N M : Nat} {x : ImgArg} {w W W' : World} (h : BkS N M x w W) (hb : Below W.heap.size W W') : BkS N M x w W' :=
  ⟨h.bN.below hb h.bN.lt, h.bM.below hb h.bM.lt, h.row.grow hb, h.qrow.grow hb, fun c hc => (h.pl c hc).imp id (fun h => ⟨h.1.grow hb, h.2⟩), h.qok, h.hM, h.hN, h.hB.trans (hb.mono (Nat.le_of_lt h.bN.lt))⟩
theorem BkS.comps {N M : Nat} {x : ImgArg} {w W : World} (h : BkS N M x w W) (hl : x.cs.length ≤ 1000000) : IsComps W x.cu x.cs :=
  ⟨Ar.elems h.row.ar (fun c hc => by obtain ⟨p, _, rfl⟩ := List.mem_map.1 hc; rfl) (by simp) (by simp only [maxLen]; omega), fun c hc => by
    rcases h.pl c hc with h1 | ⟨h1, h2⟩
    · exact h1.below (by rw [← h.hN]; exact h.hB)
    · exact h2 W h1.ar⟩
theorem BkS.img {N M : Nat} {x : ImgArg} {w W : World} (h : BkS N M x w W) (hl : x.cs.length ≤ 1000000) (hlq : x.qs.length ≤ 1000000) (h1 : (Lit.int .i64 x.w).wf = true) (h2 : (Lit.int .i64 x.h).wf = true) (ht : x.tu = .slice none 0 0) (hts : x.ts = []) : IsImg W x.val x :=
  ⟨rfl, h1, h2, h.comps hl, ⟨Ar.elems h.qrow.ar (fun c hc => by obtain ⟨q, hq, rfl⟩ := List.mem_map.1 hc; simp [QuantArg.cells, (h.qok q hq).l64]) (by simp) (by simp only [maxLen]; omega), h.qok⟩,
    ⟨by rw [ht, hts]; exact Ar.elems (Ar.nil W 2) (by simp) rfl (by simp), by rw [hts]; simp⟩⟩
theorem BkS.imgRow {N M : Nat} {x : ImgArg} {w W : World} (h : BkS N M x w W) (hl : x.cs.length ≤ 1000000) (hlq : x.qs.length ≤ 1000000) (h1 : (Lit.int .i64 x.w).wf = true) (h2 : (Lit.int .i64 x.h).wf = true) (ht : x.tu = .slice none 0 0) (hts : x.ts = []) (ds : Array Value) : IsImg (W.setRow N ds) x.val x := by
  have hB : Below N w (W.setRow N ds) := Below.setRow h.hB (Nat.le_refl _) _
  have hrow : Row (W.setRow N ds) N 63 7 x.cu x.cs.length (x.cs.map CompArg.cells).flatten := h.row.same fun g e => setRow_other W N g ds (h.row.typed h.bN (by decide) g e)
  have hqrow : Row (W.setRow N ds) N 39 65 x.qu x.qs.length (x.qs.map QuantArg.cells).flatten := h.qrow.same fun g e => setRow_other W N g ds (h.qrow.typed h.bN (by decide) g e)
  refine ⟨rfl, h1, h2, ⟨Ar.elems hrow.ar (fun c hc => by obtain ⟨p, _, rfl⟩ := List.mem_map.1 hc; rfl) (by simp) (by simp only [maxLen]; omega), fun c hc => ?_⟩, ⟨Ar.elems hqrow.ar (fun c hc => by obtain ⟨q, hq, rfl⟩ := List.mem_map.1 hc; simp [QuantArg.cells, (h.qok q hq).l64]) (by simp) (by simp only [maxLen]; omega), h.qok⟩,
    ⟨by rw [ht, hts]; exact Ar.elems (Ar.nil _ 2) (by simp) rfl (by simp), by rw [hts]; simp⟩⟩
  rcases h.pl c hc with h3 | ⟨h3, h4⟩
  · exact h3.below (by rw [← h.hN]; exact hB)
  · have h5 : Row (W.setRow N ds) N 57 64 c.u c.bs.length (bcells c.bs) := h3.same fun g e => setRow_other W N g ds (h3.typed h.bN (by decide) g e)
    exact h4 _ h5.ar
theorem BkS.put {N M g cap k : Nat} {x : ImgArg} {w W : World} (h : BkS N M x w W) (hc : x.cu = .slice (some ⟨g, 0, none⟩) x.cs.length cap) (hl : x.cs.length ≤ 1000000) (hk : k < x.cs.length) (gr : GridV) (hg1 : 1 ≤ gr.c) (hg2 : 1 ≤ gr.r) (hg3 : gr.c * gr.r ≤ 16384) (v : Value)
    (hv : Row W N 57 64 v (zeroBs gr).length (bcells (zeroBs gr))) :
    BkS N M { x with cs := x.cs.set k (putP (x.cs[k]'hk) gr v) } w (((W.setCell ⟨g, k * 7 + 4, none⟩ (.int .i64 gr.c)).setCell ⟨g, k * 7 + 5, none⟩ (.int .i64 gr.r)).setCell ⟨g, k * 7 + 6, none⟩ v) := by
  have hgt : ∀ (b : Nat) (cs : Array Value) (t : TypeId), Blk W b cs t → t ≠ 63 → b ≠ g := fun b cs t hb ht e => h.row.typed hb ht g (by rw [hc]; rfl) e.symm
  have hlo := h.row.lt g (by rw [hc]; rfl)
  have hkl : k * 7 + 7 ≤ x.cs.length * 7 := by omega
  have no3 : ∀ {b : Nat} {cs : Array Value} {t : TypeId}, Blk W b cs t → t ≠ 63 → Blk (((W.setCell ⟨g, k * 7 + 4, none⟩ (.int .i64 gr.c)).setCell ⟨g, k * 7 + 5, none⟩ (.int .i64 gr.r)).setCell ⟨g, k * 7 + 6, none⟩ v) b cs t := fun hb ht =>
    ((hb.other _ _ (hgt _ _ _ hb ht)).other _ _ (hgt _ _ _ hb ht)).other _ _ (hgt _ _ _ hb ht)
  have nor : ∀ {lo : Nat} {e : TypeId} {size : Nat} {u : Value} {n : Nat} {xs : List Value}, e ≠ 63 → Row W lo e size u n xs → Row (((W.setCell ⟨g, k * 7 + 4, none⟩ (.int .i64 gr.c)).setCell ⟨g, k * 7 + 5, none⟩ (.int .i64 gr.r)).setCell ⟨g, k * 7 + 6, none⟩ v) lo e size u n xs := fun {lo e size u n xs} he hr => by
    have hne : ∀ b, u.ownBlock = some b → b ≠ g := fun b hb => by
      rcases hr.2 with ⟨h0, _⟩ | ⟨g', cap', cur, h0, _, h3, _⟩
      · rw [h0] at hb; cases hb
      · rw [h0] at hb
        obtain rfl : g' = b := Option.some.inj hb
        exact hgt _ _ _ h3 he
    exact ((hr.other _ _ hne).other _ _ hne).other _ _ hne
  have hrow := h.row
  rw [hc] at hrow
  have r3 := ((hrow.set (k * 7 + 4) (by omega) (.int .i64 gr.c)).set (k * 7 + 5) (by omega) (.int .i64 gr.r)).set (k * 7 + 6) (by omega) v
  rw [flat_set hk (.int .i64 gr.c) (.int .i64 gr.r) v (putP (x.cs[k]'hk) gr v) rfl] at r3
  refine ⟨no3 h.bN (by decide), no3 h.bM (by decide), ?_, nor (by decide) h.qrow, ?_, h.qok, h.hM, h.hN, ((h.hB.setCell hlo.1 _).setCell hlo.1 _).setCell hlo.1 _⟩
  · show Row _ N _ 7 x.cu (x.cs.set k _).length _
    rw [hc, List.length_set]
    exact r3
  · intro c hcm
    rcases List.mem_or_eq_of_mem_set hcm with h1 | rfl
    · exact (h.pl c h1).imp id (fun h => ⟨nor (by decide) h.1, h.2⟩)
    · refine .inr ⟨nor (by decide) hv, fun W' ha => ?_⟩
      have hx := (h.comps hl).ok _ (List.getElem_mem hk)
      have hq1 : gr.c * 1 ≤ gr.c * gr.r := Int.mul_le_mul_of_nonneg_left hg2 (by omega)
      have hq2 : 1 * gr.r ≤ gr.c * gr.r := Int.mul_le_mul_of_nonneg_right hg1 (by omega)
      refine ⟨ha, fun b hb => by rw [List.eq_of_mem_replicate hb]; simp, fun b hb y hy => ?_, hx.wid, hx.wh, hx.wv, hx.wq, ?_, ?_⟩
      · rw [List.eq_of_mem_replicate hb] at hy
        rw [List.eq_of_mem_replicate hy]
        decide
      · exact wf64 gr.c (by omega) (by omega)
      · exact wf64 gr.r (by omega) (by omega)
end Go.Proofs.Ytgmhhocpdfdplaa
