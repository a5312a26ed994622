/- An image whose rows are the call's own: planes put in. -/
import Derived.Test.YtgmhhocpdfdplaaCopyL
namespace Go.Proofs.Ytgmhhocpdfdplaa
open Go.RowKit
set_option maxRecDepth 100000
/-- An image of its own: rows of its own, laid since w. -/
structure OwnL (N : Nat) (x : ImgArg) (w W : World) : Prop where
  row : Row W N 63 7 x.cu x.cs.length (x.cs.map CompArg.cells).flatten
  pl : ∀ c ∈ x.cs, Row W N 57 64 c.u c.bs.length (bcells c.bs) ∧ ∀ W', Ar W' 64 c.u c.bs.length (bcells c.bs) → c.Ok W'
  q : Row W N 39 65 x.qu x.qs.length (x.qs.map QuantArg.cells).flatten
  t : Row W N 104 2 x.tu x.ts.length (x.ts.map TagArg.cells).flatten
  qok : ∀ q ∈ x.qs, q.Ok
  tok : ∀ t ∈ x.ts, t.Ok
  hN : N = w.heap.size
  hB : Below N w W
  hW : N ≤ W.heap.size
theorem OwnI.ownL {N : Nat} {x : ImgArg} {w W : World} (h : OwnI N x w W) : OwnL N x w W :=
  ⟨h.c.row, fun c hc => by obtain ⟨i, hi, rfl⟩ := List.getElem_of_mem hc; exact ⟨h.c.own i hi hi, h.c.ok i hi hi⟩, h.q, h.t, h.qok, h.tok, h.c.hN, h.c.hB, h.c.hW⟩
theorem OwnL.below {N : Nat} {x : ImgArg} {w W W' : World} (h : OwnL N x w W) (hb : Below W.heap.size W W') : OwnL N x w W' :=
  ⟨h.row.grow hb, fun c hc => ⟨(h.pl c hc).1.grow hb, (h.pl c hc).2⟩, h.q.grow hb, h.t.grow hb, h.qok, h.tok, h.hN, h.hB.trans (hb.mono h.hW), Nat.le_trans h.hW hb.size⟩
theorem OwnL.comps {N : Nat} {x : ImgArg} {w W : World} (h : OwnL N x w W) (hl : x.cs.length ≤ 1000000) : IsComps W x.cu x.cs :=
  ⟨Ar.elems h.row.ar (fun c hc => by obtain ⟨p, _, rfl⟩ := List.mem_map.1 hc; rfl) (by simp) (by simp only [maxLen]; omega), fun c hc => (h.pl c hc).2 W (h.pl c hc).1.ar⟩
theorem OwnL.img {N : Nat} {x : ImgArg} {w W : World} (h : OwnL N x w W) (hf : FewOk x) (h1 : (Lit.int .i64 x.w).wf = true) (h2 : (Lit.int .i64 x.h).wf = true) : IsImg W x.val x := by
  have c20 := hf.c20
  have q20 := hf.q20
  have t100 := hf.t100
  exact ⟨rfl, h1, h2, h.comps (by omega), ⟨Ar.elems h.q.ar (fun c hc => by obtain ⟨q, hq, rfl⟩ := List.mem_map.1 hc; simp [QuantArg.cells, (h.qok q hq).l64]) (by simp) (by simp only [maxLen]; omega), h.qok⟩,
    ⟨Ar.elems h.t.ar (fun c hc => by obtain ⟨p, _, rfl⟩ := List.mem_map.1 hc; rfl) (by simp) (by simp only [maxLen]; omega), h.tok⟩⟩
theorem OwnL.imgRow {N : Nat} {x : ImgArg} {w W : World} (h : OwnL N x w W) (hf : FewOk x) (h1 : (Lit.int .i64 x.w).wf = true) (h2 : (Lit.int .i64 x.h).wf = true) (k : Nat) (hk : k < N) (ds : Array Value) : IsImg (W.setRow k ds) x.val x := by
  have key : ∀ {e : TypeId} {size : Nat} {v : Value} {n : Nat} {xs : List Value}, Row W N e size v n xs → Row (W.setRow k ds) N e size v n xs := fun hr => hr.same fun g e => setRow_other W k g ds (by have := (hr.lt g e).1; omega)
  have c20 := hf.c20
  have q20 := hf.q20
  have t100 := hf.t100
  exact ⟨rfl, h1, h2, ⟨Ar.elems (key h.row).ar (fun c hc => by obtain ⟨p, _, rfl⟩ := List.mem_map.1 hc; rfl) (by simp) (by simp only [maxLen]; omega), fun c hc => (h.pl c hc).2 _ (key (h.pl c hc).1).ar⟩,
    ⟨Ar.elems (key h.q).ar (fun c hc => by obtain ⟨q, hq, rfl⟩ := List.mem_map.1 hc; simp [QuantArg.cells, (h.qok q hq).l64]) (by simp) (by simp only [maxLen]; omega), h.qok⟩,
    ⟨Ar.elems (key h.t).ar (fun c hc => by obtain ⟨p, _, rfl⟩ := List.mem_map.1 hc; rfl) (by simp) (by simp only [maxLen]; omega), h.tok⟩⟩
/-- A block of a type that no row has is apart from the components' cells. -/
theorem OwnL.apart {N g cap : Nat} {x : ImgArg} {w W : World} (h : OwnL N x w W) (hc : x.cu = .slice (some ⟨g, 0, none⟩) x.cs.length cap) {b : Nat} {cs : Array Value} {t : TypeId} (hb : Blk W b cs t) (ht : t ≠ 63) : b ≠ g :=
  fun e => h.row.typed hb ht g (by rw [hc]; rfl) e.symm
def setP (c : CompArg) (cc cr : Int) (u : Value) (l : List (List Int)) : CompArg := ⟨c.id, c.h, c.v, c.q, cc, cr, u, l⟩
def putW (W : World) (g k : Nat) (cc cr : Int) (v : Value) : World := ((W.setCell ⟨g, k * 7 + 4, none⟩ (.int .i64 cc)).setCell ⟨g, k * 7 + 5, none⟩ (.int .i64 cr)).setCell ⟨g, k * 7 + 6, none⟩ v
theorem Blk.putW {W : World} {b g k : Nat} {cs : Array Value} {t : TypeId} (h : Blk W b cs t) (hb : b ≠ g) (cc cr : Int) (v : Value) : Blk (putW W g k cc cr v) b cs t := ((h.other _ _ hb).other _ _ hb).other _ _ hb
theorem OwnL.putP {N g cap k : Nat} {x : ImgArg} {w W : World} (h : OwnL N x w W) (hc : x.cu = .slice (some ⟨g, 0, none⟩) x.cs.length cap) (hk : k < x.cs.length) (cc cr : Int) (l : List (List Int)) (v : Value)
    (w1 : (Lit.int .i64 cc).wf = true) (w2 : (Lit.int .i64 cr).wf = true) (h64 : Right64 l) (hw : ∀ b ∈ l, ∀ y ∈ b, (Lit.int .i16 y).wf = true) (hv : Row W N 57 64 v l.length (bcells l)) :
    OwnL N { x with cs := x.cs.set k (setP (x.cs[k]'hk) cc cr v l) } w (putW W g k cc cr v) := by
  have hlo := h.row.lt g (by rw [hc]; rfl)
  have nor : ∀ {lo : Nat} {e : TypeId} {size : Nat} {u : Value} {n : Nat} {xs : List Value}, e ≠ 63 → Row W lo e size u n xs → Row (putW W g k cc cr v) lo e size u n xs := fun {lo e size u n xs} he hr => by
    have hne : ∀ b, u.ownBlock = some b → b ≠ g := fun b hb => by
      rcases hr.2 with ⟨h0, _⟩ | ⟨g', cap', cur, h0, _, h3, _⟩
      · rw [h0] at hb; cases hb
      · rw [h0] at hb
        obtain rfl : g' = b := Option.some.inj hb
        exact h.apart hc h3 he
    exact ((hr.other _ _ hne).other _ _ hne).other _ _ hne
  have hrow := h.row
  rw [hc] at hrow
  have hkl : k * 7 + 7 ≤ x.cs.length * 7 := by omega
  have r3 := ((hrow.set (k * 7 + 4) (by omega) (.int .i64 cc)).set (k * 7 + 5) (by omega) (.int .i64 cr)).set (k * 7 + 6) (by omega) v
  rw [flat_set hk (.int .i64 cc) (.int .i64 cr) v (setP (x.cs[k]'hk) cc cr v l) rfl] at r3
  refine ⟨?_, ?_, nor (by decide) h.q, nor (by decide) h.t, h.qok, h.tok, h.hN, ((h.hB.setCell hlo.1 _).setCell hlo.1 _).setCell hlo.1 _, by unfold putW; simpa using h.hW⟩
  · show Row _ N _ 7 x.cu (x.cs.set k _).length _
    rw [hc, List.length_set]
    exact r3
  · intro c hcm
    rcases List.mem_or_eq_of_mem_set hcm with h1 | rfl
    · exact ⟨nor (by decide) (h.pl c h1).1, (h.pl c h1).2⟩
    · refine ⟨nor (by decide) hv, fun W' ha => ?_⟩
      have hx := (h.pl _ (List.getElem_mem hk)).2 W (h.pl _ (List.getElem_mem hk)).1.ar
      exact ⟨ha, h64, hw, hx.wid, hx.wh, hx.wv, hx.wq, w1, w2⟩
theorem Row.sameT {w w' : World} {lo : Nat} {e : TypeId} {size n : Nat} {v : Value} {xs : List Value} (h : Row w lo e size v n xs) (hb : ∀ g cs, Blk w g cs e → lo ≤ g → w'.heap[g]? = w.heap[g]?) : Row w' lo e size v n xs :=
  h.same fun g hg => by
    have hlo := (h.lt g hg).1
    rcases h.2 with ⟨h0, _⟩ | ⟨g', cap', cur, h0, _, h3, _⟩
    · rw [h0] at hg; cases hg
    · rw [h0] at hg
      obtain rfl : g' = g := Option.some.inj hg
      exact hb _ _ h3 hlo
/-- An own image where what has the types of its rows lies as it lay. -/
theorem OwnL.at' {N : Nat} {x : ImgArg} {w W : World} (h : OwnL N x w W) (W' : World) (hb : ∀ g cs t, Blk W g cs t → (t = 63 ∨ t = 57 ∨ t = 39 ∨ t = 104) → N ≤ g → W'.heap[g]? = W.heap[g]?) (w0 : World) (N0 : Nat) (hN0 : N0 = w0.heap.size) (hN : N0 ≤ N) (hB : Below N0 w0 W') (hW : N0 ≤ W'.heap.size) : OwnL N0 x w0 W' :=
  ⟨(h.row.sameT fun g cs hg hl => hb g cs _ hg (.inl rfl) hl).down hN, fun c hc => ⟨((h.pl c hc).1.sameT fun g cs hg hl => hb g cs _ hg (.inr (.inl rfl)) hl).down hN, (h.pl c hc).2⟩, (h.q.sameT fun g cs hg hl => hb g cs _ hg (.inr (.inr (.inl rfl))) hl).down hN,
    (h.t.sameT fun g cs hg hl => hb g cs _ hg (.inr (.inr (.inr rfl))) hl).down hN, h.qok, h.tok, hN0, hB, hW⟩
/-- A row of a block is written that is none of the image's. -/
theorem OwnL.setRow {N : Nat} {x : ImgArg} {w W : World} (h : OwnL N x w W) (k : Nat) (hk : k < N) (ds : Array Value) (w0 : World) (h0 : w0.heap.size ≤ k) (hB : Below w0.heap.size w0 W) : OwnL w0.heap.size x w0 (W.setRow k ds) :=
  h.at' _ (fun g _ _ _ _ hl => setRow_other W k g ds (by omega)) w0 _ rfl (by omega) (Below.setRow hB h0 _) (by simpa using hB.size)
/-- An image whose rows are blocks of their own types. -/
structure OwnT (x : ImgArg) (W : World) : Prop where
  row : Row W 0 63 7 x.cu x.cs.length (x.cs.map CompArg.cells).flatten
  pl : ∀ c ∈ x.cs, Row W 0 57 64 c.u c.bs.length (bcells c.bs) ∧ ∀ W', Ar W' 64 c.u c.bs.length (bcells c.bs) → c.Ok W'
  q : Row W 0 39 65 x.qu x.qs.length (x.qs.map QuantArg.cells).flatten
  t : Row W 0 104 2 x.tu x.ts.length (x.ts.map TagArg.cells).flatten
  qok : ∀ q ∈ x.qs, q.Ok
  tok : ∀ t ∈ x.ts, t.Ok
theorem OwnL.ownT {N : Nat} {x : ImgArg} {w W : World} (h : OwnL N x w W) : OwnT x W := ⟨h.row.down (Nat.zero_le _), fun c hc => ⟨(h.pl c hc).1.down (Nat.zero_le _), (h.pl c hc).2⟩, h.q.down (Nat.zero_le _), h.t.down (Nat.zero_le _), h.qok, h.tok⟩
theorem OwnT.below {x : ImgArg} {W W' : World} (h : OwnT x W) (hb : Below W.heap.size W W') : OwnT x W' := ⟨h.row.grow hb, fun c hc => ⟨(h.pl c hc).1.grow hb, (h.pl c hc).2⟩, h.q.grow hb, h.t.grow hb, h.qok, h.tok⟩
theorem OwnT.at' {x : ImgArg} {W : World} (h : OwnT x W) (W' : World) (hb : ∀ g cs t, Blk W g cs t → (t = 63 ∨ t = 57 ∨ t = 39 ∨ t = 104) → W'.heap[g]? = W.heap[g]?) : OwnT x W' :=
  ⟨h.row.sameT fun g cs hg _ => hb g cs _ hg (.inl rfl), fun c hc => ⟨(h.pl c hc).1.sameT fun g cs hg _ => hb g cs _ hg (.inr (.inl rfl)), (h.pl c hc).2⟩, h.q.sameT fun g cs hg _ => hb g cs _ hg (.inr (.inr (.inl rfl))), h.t.sameT fun g cs hg _ => hb g cs _ hg (.inr (.inr (.inr rfl))), h.qok, h.tok⟩
theorem img_ne {t : TypeId} (h : t = 63 ∨ t = 57 ∨ t = 39 ∨ t = 104) : t ≠ 26 ∧ t ≠ 70 := by
  rcases h with rfl | rfl | rfl | rfl <;> decide
theorem OwnT.setRow {x : ImgArg} {W : World} (h : OwnT x W) {k : Nat} {cs : Array Value} (hk : Blk W k cs 26) (ds : Array Value) : OwnT x (W.setRow k ds) :=
  h.at' _ fun g cs' t hg ht => setRow_other W k g ds (by
    rintro rfl
    have := hg.symm.trans hk
    simp at this
    exact (img_ne ht).1 this.2)
theorem OwnT.img {x : ImgArg} {W : World} (h : OwnT x W) (hf : FewOk x) (h1 : (Lit.int .i64 x.w).wf = true) (h2 : (Lit.int .i64 x.h).wf = true) : IsImg W x.val x := by
  have c20 := hf.c20
  have q20 := hf.q20
  have t100 := hf.t100
  exact ⟨rfl, h1, h2, ⟨Ar.elems h.row.ar (fun c hc => by obtain ⟨p, _, rfl⟩ := List.mem_map.1 hc; rfl) (by simp) (by simp only [maxLen]; omega), fun c hc => (h.pl c hc).2 W (h.pl c hc).1.ar⟩,
    ⟨Ar.elems h.q.ar (fun c hc => by obtain ⟨q, hq, rfl⟩ := List.mem_map.1 hc; simp [QuantArg.cells, (h.qok q hq).l64]) (by simp) (by simp only [maxLen]; omega), h.qok⟩,
    ⟨Ar.elems h.t.ar (fun c hc => by obtain ⟨p, _, rfl⟩ := List.mem_map.1 hc; rfl) (by simp) (by simp only [maxLen]; omega), h.tok⟩⟩
end Go.Proofs.Ytgmhhocpdfdplaa
