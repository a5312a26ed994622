/- The statements on cuts: what stands while they run. -/
import Derived.Test.YtgmhhocpdfdplaaAw19
import Derived.Test.YtgmhhocpdfdplaaGG
namespace Go.Proofs.Ytgmhhocpdfdplaa
open Go.RowKit
set_option maxRecDepth 100000
def shI (e : Int) (v : Value) : Prop := ∃ yw yh yb m ycap qb n qcap tb l tcap, v = .tuple #[.agg #[.int .i64 yw, .int .i64 yh, .slice yb m ycap, .slice qb n qcap, .slice tb l tcap], .int .i64 e]
def fI (D : ImgArg) (v : Value) : Fact := fun _ _ w => ∃ y : ImgArg, (∃ e, v = .tuple #[y.val, e]) ∧ SameD D y ∧ OwnT y w ∧ FewOk y ∧ (Lit.int .i64 y.w).wf = true ∧ (Lit.int .i64 y.h).wf = true
theorem fI_mono (D : ImgArg) (v : Value) : (fI D v).Mono := by
  intro lo hi w w' h hs hB
  obtain ⟨y, h1, h2, h3, h4⟩ := h
  exact ⟨y, h1, h2, h3.below hB, h4⟩
/-- An image y like D in box P. -/
structure BX (P : Nat) (D y : ImgArg) (V : World) : Prop where
  b : Blk V P #[.int .i64 y.w, .int .i64 y.h, y.cu, y.qu, y.tu] 26
  own : OwnT y V
  d : SameD D y
  few : FewOk y
  ww : (Lit.int .i64 y.w).wf = true
  wh : (Lit.int .i64 y.h).wf = true
theorem BX.below {P : Nat} {D y : ImgArg} {V V' : World} (h : BX P D y V) (hb : Below V.heap.size V V') : BX P D y V' := ⟨h.b.below hb h.b.lt, h.own.below hb, h.d, h.few, h.ww, h.wh⟩
theorem BX.img {P : Nat} {D y : ImgArg} {V : World} (h : BX P D y V) : IsImg V (.agg #[.int .i64 y.w, .int .i64 y.h, y.cu, y.qu, y.tu]) y := h.own.img h.few h.ww h.wh
theorem BX.slices {P : Nat} {D y : ImgArg} {V : World} (h : BX P D y V) : ∃ yb ycap qb qcap tb tcap, y.cu = .slice yb y.cs.length ycap ∧ y.qu = .slice qb y.qs.length qcap ∧ y.tu = .slice tb y.ts.length tcap := by
  obtain ⟨yb, ycap, h1⟩ := h.own.row.len
  obtain ⟨qb, qcap, h2⟩ := h.own.q.len
  obtain ⟨tb, tcap, h3⟩ := h.own.t.len
  exact ⟨yb, ycap, qb, qcap, tb, tcap, h1, h2, h3⟩
theorem ImgRes.vals {D : ImgArg} {e : Int} {r : Ending} {w' : World} {x1 : ImgArg} (h : ImgRes D e r w' x1) : ∃ v, r = .returned v ∧ shI e v ∧ ∀ lo hi, fI D v lo hi w' := by
  obtain ⟨yb, ycap, h1⟩ := h.own.row.len
  obtain ⟨qb, qcap, h2⟩ := h.own.q.len
  obtain ⟨tb, tcap, h3⟩ := h.own.t.len
  refine ⟨_, h.r, ⟨x1.w, x1.h, yb, x1.cs.length, ycap, qb, x1.qs.length, qcap, tb, x1.ts.length, tcap, ?_⟩, fun lo hi => ⟨x1, ⟨_, rfl⟩, h.d, h.own, h.few, h.ww, h.wh⟩⟩
  unfold ImgArg.val
  rw [h1, h2, h3]
theorem LR.setRow {N g : Nat} {x : ImgArg} {X Y W H : Int} {t : TypeId} {w V : World} (h : LR N x X Y W H t w V) (HI : IsImg w x.val x) (hg : N + 1 < g) (ds : Array Value) : LR N x X Y W H t w (V.setRow g ds) := by
  have hM := h.l.hM
  have hB := Below.setRow h.hB (g := g) (by omega) ds
  exact ⟨⟨h.l.bN.rowOther _ _ (by omega), HI.below hB, hM, hB⟩, h.bR.rowOther _ _ (by omega)⟩
theorem BX.setRow {P g : Nat} {D y : ImgArg} {V : World} {zs : Array Value} (h : BX P D y V) (hg : Blk V g zs 26) (hne : P ≠ g) (ds : Array Value) : BX P D y (V.setRow g ds) :=
  ⟨h.b.rowOther _ _ hne, h.own.setRow hg ds, h.d, h.few, h.ww, h.wh⟩
theorem BX.new {g : Nat} {D y : ImgArg} {V : World} {zs : Array Value} (hg : Blk V g zs 26) (ho : OwnT y V) (hd : SameD D y) (hf : FewOk y) (h1 : (Lit.int .i64 y.w).wf = true) (h2 : (Lit.int .i64 y.h).wf = true) : BX g D y (V.setRow g #[.int .i64 y.w, .int .i64 y.h, y.cu, y.qu, y.tu]) :=
  ⟨hg.row _, ho.setRow hg _, hd, hf, h1, h2⟩
/-- What a drawn region's call yields, as an image. -/
theorem fI_get {D : ImgArg} {e : Int} {yw yh : Int} {a b c : Value} {lo hi : Nat} {w : World} (h : fI D (.tuple #[.agg #[.int .i64 yw, .int .i64 yh, a, b, c], .int .i64 e]) lo hi w) :
    ∃ cs qs ts, SameD D ⟨yw, yh, a, b, c, cs, qs, ts⟩ ∧ OwnT ⟨yw, yh, a, b, c, cs, qs, ts⟩ w ∧ FewOk ⟨yw, yh, a, b, c, cs, qs, ts⟩ ∧ (Lit.int .i64 yw).wf = true ∧ (Lit.int .i64 yh).wf = true := by
  obtain ⟨⟨y0, y1, y2, y3, y4, cs, qs, ts⟩, ⟨e', he⟩, h1, h2, h3, h4, h5⟩ := h
  simp only [ImgArg.val, Value.tuple.injEq, Array.mk.injEq, List.cons.injEq, Value.agg.injEq, Value.int.injEq, true_and, and_true] at he
  obtain ⟨⟨rfl, rfl, rfl, rfl, rfl⟩, -⟩ := he
  exact ⟨cs, qs, ts, h1, h2, h3, h4, h5⟩
def zero5 : Array Value := #[.int .i64 0, .int .i64 0, .slice none 0 0, .slice none 0 0, .slice none 0 0]
end Go.Proofs.Ytgmhhocpdfdplaa
