/- Arguments opened: images (components with planes, quantization tables, tags). -/
import Derived.Test.YtgmhhocpdfdplaaOpenPl
namespace Go.Proofs.Ytgmhhocpdfdplaa
open Go.ChangeShapes Go.WideShapes Go.ChangeAt Go.RowKit
set_option maxRecDepth 100000
/-- A component: its id, its factors, its table's place, its plane. -/
structure CompArg where
  id : Int
  h : Int
  v : Int
  q : Int
  c : Int
  r : Int
  u : Value
  bs : List (List Int)
def CompArg.cells (x : CompArg) : List Value := [.int .i64 x.id, .int .i64 x.h, .int .i64 x.v, .int .i64 x.q, .int .i64 x.c, .int .i64 x.r, x.u]
structure CompArg.Ok (w : World) (x : CompArg) : Prop where
  ar : Ar w 64 x.u x.bs.length (bcells x.bs)
  h64 : Right64 x.bs
  wb : ∀ b ∈ x.bs, ∀ y ∈ b, (Lit.int .i16 y).wf = true
  wid : (Lit.int .i64 x.id).wf = true
  wh : (Lit.int .i64 x.h).wf = true
  wv : (Lit.int .i64 x.v).wf = true
  wq : (Lit.int .i64 x.q).wf = true
  wc : (Lit.int .i64 x.c).wf = true
  wr : (Lit.int .i64 x.r).wf = true
structure IsComps (w : World) (v : Value) (xs : List CompArg) : Prop where
  el : Elems w 7 v (xs.map CompArg.cells)
  ok : ∀ x ∈ xs, x.Ok w
structure QuantArg where
  at_ : Int
  q : List Int
def QuantArg.cells (x : QuantArg) : List Value := .int .i64 x.at_ :: x.q.map (Value.int .u16)
structure QuantArg.Ok (x : QuantArg) : Prop where
  wa : (Lit.int .i64 x.at_).wf = true
  l64 : x.q.length = 64
  wq : ∀ y ∈ x.q, (Lit.int .u16 y).wf = true
structure IsQuants (w : World) (v : Value) (xs : List QuantArg) : Prop where
  el : Elems w 65 v (xs.map QuantArg.cells)
  ok : ∀ x ∈ xs, x.Ok
structure TagArg where
  kind : Int
  body : ByteArray
def TagArg.cells (x : TagArg) : List Value := [.int .i64 x.kind, .string x.body]
structure TagArg.Ok (x : TagArg) : Prop where
  wk : (Lit.int .i64 x.kind).wf = true
  wl : x.body.size ≤ maxLen
structure IsTags (w : World) (v : Value) (xs : List TagArg) : Prop where
  el : Elems w 2 v (xs.map TagArg.cells)
  ok : ∀ x ∈ xs, x.Ok
/-- An image: its sides, the slices of its components, tables, tags. -/
structure ImgArg where
  w : Int
  h : Int
  cu : Value
  qu : Value
  tu : Value
  cs : List CompArg
  qs : List QuantArg
  ts : List TagArg
def ImgArg.val (x : ImgArg) : Value := .agg #[.int .i64 x.w, .int .i64 x.h, x.cu, x.qu, x.tu]
structure IsImg (w : World) (v : Value) (x : ImgArg) : Prop where
  val : v = x.val
  ww : (Lit.int .i64 x.w).wf = true
  wh : (Lit.int .i64 x.h).wf = true
  cs : IsComps w x.cu x.cs
  qs : IsQuants w x.qu x.qs
  ts : IsTags w x.tu x.ts
section
variable {H : Type} {enc : TypeId × Value → H} {P : Program} {w : World} {base : Nat} {sp : Nat → Bool} {held : Bool}
theorem trod_struct5 {t : TypeId} {f0 f1 f2 f3 f4 : Field} {fuel : Nat} {cs : List Value} {x : DataW H × List MemPlace} (ht : P.underlying t = some (.struct #[f0, f1, f2, f3, f4])) (h : DataW.trod enc P w base sp held fuel t cs = some x) :
    ∃ y0 y1 y2 y3 y4 n, cs.length = P.cellsOf t ∧ DataW.trod enc P w base sp held n f0.type ((cs.drop f0.offset).take (P.cellsOf f0.type)) = some y0 ∧
      DataW.trod enc P w base sp held n f1.type ((cs.drop f1.offset).take (P.cellsOf f1.type)) = some y1 ∧ DataW.trod enc P w base sp held n f2.type ((cs.drop f2.offset).take (P.cellsOf f2.type)) = some y2 ∧
      DataW.trod enc P w base sp held n f3.type ((cs.drop f3.offset).take (P.cellsOf f3.type)) = some y3 ∧ DataW.trod enc P w base sp held n f4.type ((cs.drop f4.offset).take (P.cellsOf f4.type)) = some y4 := by
  obtain ⟨xs, n, _, rfl, hl, hlen, hf⟩ := DataW.trod_struct ht h
  match xs, hlen with
  | [y0, y1, y2, y3, y4], _ => exact ⟨y0, y1, y2, y3, y4, n, hl, by simpa using hf 0 f0 rfl, by simpa using hf 1 f1 rfl, by simpa using hf 2 f2 rfl, by simpa using hf 3 f3 rfl, by simpa using hf 4 f4 rfl⟩
theorem list7 {α : Type} {c : List α} (h : c.length = 7) : ∃ c0 c1 c2 c3 c4 c5 c6, c = [c0, c1, c2, c3, c4, c5, c6] := by
  match c, h with
  | [c0, c1, c2, c3, c4, c5, c6], _ => exact ⟨_, _, _, _, _, _, _, rfl⟩
theorem list5 {α : Type} {c : List α} (h : c.length = 5) : ∃ c0 c1 c2 c3 c4, c = [c0, c1, c2, c3, c4] := by
  match c, h with
  | [c0, c1, c2, c3, c4], _ => exact ⟨_, _, _, _, _, rfl⟩
theorem list2 {α : Type} {c : List α} (h : c.length = 2) : ∃ c0 c1, c = [c0, c1] := by
  match c, h with
  | [c0, c1], _ => exact ⟨_, _, rfl⟩
end
section
variable {H : Type} {enc : TypeId × Value → H} {w : World} {base : Nat} {sp : Nat → Bool} {held : Bool}
theorem comp_of_trod {n : Nat} {c : List Value} {y : DataW H × List MemPlace} (hl : c.length = 7) (h : DataW.trod enc Try.prog w base sp held n 63 c = some y) : ∃ x : CompArg, c = x.cells ∧ x.Ok w := by
  obtain ⟨y0, y1, y2, y3, y4, m, _, e0, e1, e2, e3, e4⟩ := trod_struct5 Try.underlying63 h
  obtain ⟨c0, c1, c2, c3, c4, c5, c6, rfl⟩ := list7 hl
  have ki : Try.prog.cellsOf 3 = 1 := by kernel_rfl
  have kp : Try.prog.cellsOf 61 = 3 := by kernel_rfl
  simp only [ki, kp, List.drop_zero, List.drop_succ_cons, List.take_succ_cons, List.take_zero] at e0 e1 e2 e3 e4
  obtain ⟨z0, f0, _, g0⟩ := DataW.trod_int Try.underlying3 e0
  obtain ⟨z1, f1, _, g1⟩ := DataW.trod_int Try.underlying3 e1
  obtain ⟨z2, f2, _, g2⟩ := DataW.trod_int Try.underlying3 e2
  obtain ⟨z3, f3, _, g3⟩ := DataW.trod_int Try.underlying3 e3
  simp only [List.cons.injEq, and_true] at f0 f1 f2 f3
  subst f0 f1 f2 f3
  obtain ⟨p0, p1, p2, m2, _, _, d0, d1, d2⟩ := Go.Deep.trod_struct3 Try.underlying61 e4
  have ks : Try.prog.cellsOf 59 = 1 := by kernel_rfl
  simp only [ki, ks, List.drop_zero, List.drop_succ_cons, List.take_succ_cons, List.take_zero] at d0 d1 d2
  obtain ⟨z4, f4, _, g4⟩ := DataW.trod_int Try.underlying3 d0
  obtain ⟨z5, f5, _, g5⟩ := DataW.trod_int Try.underlying3 d1
  simp only [List.cons.injEq, and_true] at f4 f5
  subst f4 f5
  obtain ⟨cells, h1, h2⟩ := open_elems_trod Try.underlying59 d2
  have hc : Try.prog.cellsOf 57 = 64 := by kernel_rfl
  rw [hc] at h1
  obtain ⟨bs, hb⟩ := blocks_of_elems h1 h2
  exact ⟨⟨z0, z1, z2, z3, z4, z5, c6, bs⟩, rfl, hb.ar, hb.h64, hb.wb, g0, g1, g2, g3, g4, g5⟩
theorem comps_of_trod {n : Nat} {u : Value} {y : DataW H × List MemPlace} (h : DataW.trod enc Try.prog w base sp held n 22 [u] = some y) : ∃ xs, IsComps w u xs := by
  obtain ⟨cells, h1, h2⟩ := open_elems_trod Try.underlying22 h
  have hc : Try.prog.cellsOf 63 = 7 := by kernel_rfl
  rw [hc] at h1
  have h3 : ∀ c ∈ cells, ∃ x : CompArg, c = x.cells ∧ x.Ok w := fun c hcm => by
    obtain ⟨k, z, hz⟩ := h2 c hcm
    exact comp_of_trod (h1.2.1 c hcm) hz
  obtain ⟨xs, rfl, hx⟩ := exists_map cells h3
  exact ⟨xs, h1, hx⟩
theorem quants_of_trod {n : Nat} {u : Value} {y : DataW H × List MemPlace} (h : DataW.trod enc Try.prog w base sp held n 23 [u] = some y) : ∃ xs, IsQuants w u xs := by
  obtain ⟨cells, h1, h2⟩ := open_elems_trod Try.underlying23 h
  have hc : Try.prog.cellsOf 39 = 65 := by kernel_rfl
  rw [hc] at h1
  have h3 : ∀ c ∈ cells, ∃ x : QuantArg, c = x.cells ∧ x.Ok := fun c hcm => by
    obtain ⟨k, z, hz⟩ := h2 c hcm
    have hl := h1.2.1 c hcm
    obtain ⟨y0, y1, m, _, _, e0, e1⟩ := trod_struct2 Try.underlying39 hz
    have ki : Try.prog.cellsOf 3 = 1 := by kernel_rfl
    have ka : Try.prog.cellsOf 35 = 64 := by kernel_rfl
    cases c with
    | nil => simp at hl
    | cons c0 cr =>
      simp only [ki, ka, List.drop_zero, List.drop_succ_cons, List.take_succ_cons, List.take_zero] at e0 e1
      rw [List.take_of_length_le (by simp at hl; omega)] at e1
      obtain ⟨z0, f0, _, g0⟩ := DataW.trod_int Try.underlying3 e0
      simp only [List.cons.injEq, and_true] at f0
      subst f0
      obtain ⟨xs, rfl, hxl, hxw⟩ := ints_of_trod Try.underlying35 Try.underlying34 (by kernel_rfl) (by kernel_rfl) e1
      exact ⟨⟨z0, xs⟩, rfl, g0, hxl, hxw⟩
  obtain ⟨xs, rfl, hx⟩ := exists_map cells h3
  exact ⟨xs, h1, hx⟩
theorem tags_of_trod {n : Nat} {u : Value} {y : DataW H × List MemPlace} (h : DataW.trod enc Try.prog w base sp held n 24 [u] = some y) : ∃ xs, IsTags w u xs := by
  obtain ⟨cells, h1, h2⟩ := open_elems_trod Try.underlying24 h
  have hc : Try.prog.cellsOf 104 = 2 := by kernel_rfl
  rw [hc] at h1
  have h3 : ∀ c ∈ cells, ∃ x : TagArg, c = x.cells ∧ x.Ok := fun c hcm => by
    obtain ⟨k, z, hz⟩ := h2 c hcm
    have hl := h1.2.1 c hcm
    obtain ⟨y0, y1, m, _, _, e0, e1⟩ := trod_struct2 Try.underlying104 hz
    obtain ⟨c0, c1, rfl⟩ := list2 hl
    have ki : Try.prog.cellsOf 3 = 1 := by kernel_rfl
    have kt : Try.prog.cellsOf 9 = 1 := by kernel_rfl
    simp only [ki, kt, List.drop_zero, List.drop_succ_cons, List.take_succ_cons, List.take_zero] at e0 e1
    obtain ⟨z0, f0, _, g0⟩ := DataW.trod_int Try.underlying3 e0
    obtain ⟨s1, f1, _, g1⟩ := DataW.trod_string Try.underlying9 e1
    simp only [List.cons.injEq, and_true] at f0 f1
    subst f0 f1
    exact ⟨⟨z0, s1⟩, rfl, g0, g1⟩
  obtain ⟨xs, rfl, hx⟩ := exists_map cells h3
  exact ⟨xs, h1, hx⟩
theorem open_image {r : Reach} {b0 : Nat} {v : Value} {d : DataW H} {p : List MemPlace} (hv : Value.okWide Try.prog w r b0 26 v) (h : DataW.Trod enc Try.prog w base sp held 26 v d p) : ∃ x, IsImg w v x := by
  obtain ⟨cs, rfl, hsz⟩ := okWide_struct Try.underlying26 hv
  obtain ⟨fuel, hf⟩ := h
  obtain ⟨y0, y1, y2, y3, y4, m, hl, e0, e1, e2, e3, e4⟩ := trod_struct5 Try.underlying26 hf
  have kt : Try.prog.cellsOf 26 = 5 := by kernel_rfl
  have ki : Try.prog.cellsOf 3 = 1 := by kernel_rfl
  have k1 : Try.prog.cellsOf 22 = 1 := by kernel_rfl
  have k2 : Try.prog.cellsOf 23 = 1 := by kernel_rfl
  have k3 : Try.prog.cellsOf 24 = 1 := by kernel_rfl
  rw [kt] at hsz
  obtain ⟨c0, c1, c2, c3, c4, hcs⟩ := list5 (c := cs.toList) (by simpa using hsz)
  obtain rfl : cs = #[c0, c1, c2, c3, c4] := by apply Array.ext'; rw [hcs]
  simp only [Value.cells, ki, k1, k2, k3, List.drop_zero, List.drop_succ_cons, List.take_succ_cons, List.take_zero] at e0 e1 e2 e3 e4
  obtain ⟨z0, f0, _, g0⟩ := DataW.trod_int Try.underlying3 e0
  obtain ⟨z1, f1, _, g1⟩ := DataW.trod_int Try.underlying3 e1
  simp only [List.cons.injEq, and_true] at f0 f1
  subst f0 f1
  obtain ⟨xs, hx⟩ := comps_of_trod e2
  obtain ⟨qs, hq⟩ := quants_of_trod e3
  obtain ⟨ts, ht⟩ := tags_of_trod e4
  exact ⟨⟨z0, z1, c2, c3, c4, xs, qs, ts⟩, rfl, g0, g1, hx, hq, ht⟩
end
end Go.Proofs.Ytgmhhocpdfdplaa
