/- A copy in plain words: right if the image is; changed, it is another one. -/
import Derived.Test.YtgmhhocpdfdplaaCopy
namespace Go.Proofs.Ytgmhhocpdfdplaa
open Go.RowKit
set_option maxRecDepth 100000
def stripU (c : CompArg) : CompArg := setU c (.slice none 0 0)
theorem strip_cd {a b : CompArg} (h : cd a = cd b) : stripU a = stripU b := by
  obtain ⟨a0, a1, a2, a3, a4, a5, a6, a7⟩ := a
  obtain ⟨b0, b1, b2, b3, b4, b5, b6, b7⟩ := b
  simp only [cd, Prod.mk.injEq] at h
  obtain ⟨⟨rfl, rfl, rfl, rfl⟩, rfl, rfl, rfl⟩ := h
  rfl
theorem strip_map {xs ys : List CompArg} (h : xs.map cd = ys.map cd) : xs.map stripU = ys.map stripU := by
  refine List.ext_getElem? fun i => ?_
  have hi := congrArg (fun l => l[i]?) h
  simp only [List.getElem?_map] at hi ⊢
  cases hx : xs[i]? with
  | none => cases hy : ys[i]? with
    | none => rfl
    | some b => rw [hx, hy] at hi; cases hi
  | some a => cases hy : ys[i]? with
    | none => rw [hx, hy] at hi; cases hi
    | some b =>
      rw [hx, hy] at hi
      simp only [Option.map_some, Option.some.injEq] at hi ⊢
      exact strip_cd hi
theorem getD_strip (cs : List CompArg) (k : Nat) : (cs.map stripU).getD k noComp = stripU (cs.getD k noComp) := by
  simp only [List.getD_eq_getElem?_getD, List.getElem?_map]
  cases cs[k]? <;> rfl
def stripI (x : ImgArg) : ImgArg := { x with cs := x.cs.map stripU }
theorem errL_strip (x : ImgArg) : errL (stripI x) = errL x := by
  have hp : psOf (x.cs.map stripU) = psOf x.cs := by simp [psOf, stripU, setU]
  have e1 : frE (stripI x) = frE x := by unfold frE stripI; simp only; rw [hp]
  have e0 : frG (stripI x) = frG x := by unfold frG stripI; simp only; rw [hp]
  have e2 : compsE (stripI x).cs = compsE x.cs := by
    unfold compsE compE stripI
    simp only [getD_strip, List.length_map]
    rfl
  have eu : ∀ y, usedQ (x.cs.map stripU) y = usedQ x.cs y := fun y => by
    unfold usedQ
    simp only [getD_strip, List.length_map]
    rfl
  have e3 : tablesE (stripI x) = tablesE x := by
    unfold tablesE quantsE compsTE quantE compTE stripI
    simp only [getD_strip, List.length_map, eu]
    rfl
  have e4 : planesE (stripI x) = planesE x := by
    unfold planesE
    rw [e0]
    unfold planeE stripI
    simp only [getD_strip, List.length_map]
    rfl
  have e5 : blocksE (stripI x).cs = blocksE x.cs := by
    have hn : (⟨0, 0, 0, 0, 0, 0, .slice none 0 0, []⟩ : CompArg) = noComp := rfl
    unfold blocksE stripI
    rw [hn]
    simp only [getD_strip, List.length_map]
    rfl
  unfold errL
  rw [e1, e2, e3, e4, e5]
  rfl
theorem SameD.err {x y : ImgArg} (h : SameD x y) : imgE y = imgE x := by
  have e : errL y = errL x := by
    rw [← errL_strip y, ← errL_strip x]
    obtain ⟨h1, h2, h3, h4, h5⟩ := h
    obtain ⟨yw, yh, ycu, yqu, ytu, ycs, yqs, yts⟩ := y
    obtain ⟨xw, xh, xcu, xqu, xtu, xcs, xqs, xts⟩ := x
    simp only at h1 h2 h3 h4 h5
    subst h1 h2 h4 h5
    unfold stripI
    simp only
    rw [strip_map h3]
    rfl
  unfold imgE
  rw [e]
theorem SameD.same {x y : ImgArg} (h : SameD x y) : sameB y x = true := by
  unfold sameB
  rw [h.w, h.h, h.cs, h.qs, h.ts]
  simp
theorem SameD.len {x y : ImgArg} (h : SameD x y) : y.cs.length = x.cs.length := by simpa using congrArg List.length h.cs
theorem SameD.at {x y : ImgArg} (h : SameD x y) {i : Nat} (hi : i < y.cs.length) (hi' : i < x.cs.length) : cd (y.cs[i]'hi) = cd (x.cs[i]'hi') := by
  have := congrArg (fun l => l[i]?) h.cs
  simpa [hi, hi'] using this
theorem SameD.few {x y : ImgArg} (h : SameD x y) (hf : FewOk x) : FewOk y := by
  refine ⟨by rw [h.len]; exact hf.c20, by rw [h.qs]; exact hf.q20, by rw [h.ts]; exact hf.t100, fun c hc => ?_, by rw [h.ts]; exact hf.t140⟩
  obtain ⟨i, hi, rfl⟩ := List.getElem_of_mem hc
  have hi' : i < x.cs.length := by rw [← h.len]; exact hi
  have e : (y.cs[i]'hi).bs = (x.cs[i]'hi').bs := congrArg (fun t => t.2.2.2) (h.at hi hi')
  rw [e]
  exact hf.b300 _ (List.getElem_mem hi')
theorem OwnI.img {N : Nat} {x : ImgArg} {w W : World} (h : OwnI N x w W) (hl : x.cs.length ≤ 1000000) (hq : x.qs.length ≤ 1000000) (ht : x.ts.length ≤ 1000000) (h1 : (Lit.int .i64 x.w).wf = true) (h2 : (Lit.int .i64 x.h).wf = true) : IsImg W x.val x :=
  ⟨rfl, h1, h2, h.c.comps hl, ⟨Ar.elems h.q.ar (fun c hc => by obtain ⟨q, hq, rfl⟩ := List.mem_map.1 hc; simp [QuantArg.cells, (h.qok q hq).l64]) (by simp) (by simp only [maxLen]; omega), h.qok⟩,
    ⟨Ar.elems h.t.ar (fun c hc => by obtain ⟨p, _, rfl⟩ := List.mem_map.1 hc; rfl) (by simp) (by simp only [maxLen]; omega), h.tok⟩⟩
theorem OwnI.below {N : Nat} {x : ImgArg} {w W W' : World} (h : OwnI N x w W) (hb : Below W.heap.size W W') : OwnI N x w W' :=
  ⟨h.c.below hb, h.q.grow hb, h.t.grow hb, h.qok, h.tok⟩
/-- A block's number changed. -/
def setB (c : CompArg) (k j : Nat) (z : Int) : CompArg := ⟨c.id, c.h, c.v, c.q, c.c, c.r, c.u, c.bs.set k ((c.bs.getD k []).set j z)⟩
def setId (c : CompArg) (z : Int) : CompArg := ⟨z, c.h, c.v, c.q, c.c, c.r, c.u, c.bs⟩
theorem bcells_set1 {bs : List (List Int)} (h : Right64 bs) {k j : Nat} (hk : k < bs.length) (hj : j < 64) (z : Int) : (bcells bs).set (k * 64 + j) (.int .i16 z) = bcells (bs.set k ((bs.getD k []).set j z)) := by
  have hb : bs.getD k [] = bs[k]'hk := by simp [List.getD_eq_getElem?_getD, hk]
  have hl : (bs[k]'hk).length = 64 := h _ (List.getElem_mem hk)
  rw [bcells_set h k _ hk, hb]
  have e1 : bcells bs = (bcells bs).take (k * 64) ++ (bs[k]'hk).map (Value.int .i16) ++ (bcells bs).drop (k * 64 + 64) := by
    have := bcells_set h k (bs[k]'hk) hk
    rw [← this, List.set_getElem_self]
  have hlen : (bcells bs).length = bs.length * 64 := bcells_len h
  have ht : ((bcells bs).take (k * 64)).length = k * 64 := by rw [List.length_take, hlen, Nat.min_eq_left (by omega)]
  conv => lhs; rw [e1]
  rw [List.append_assoc, List.set_append_right _ _ (by omega), ht, show k * 64 + j - k * 64 = j by omega, List.set_append_left _ _ (by simp [hl, hj]), List.map_set, List.append_assoc]
end Go.Proofs.Ytgmhhocpdfdplaa
