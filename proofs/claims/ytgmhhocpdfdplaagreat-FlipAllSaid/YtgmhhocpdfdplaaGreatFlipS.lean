/- The reference's Image of turns. -/
import Derived.Test.YtgmhhocpdfdplaaGreatFlipR
namespace Go.Proofs.YtgmhhocpdfdplaaGreat
open Go.RowKit
set_option maxRecDepth 100000
set_option maxHeartbeats 16000000
/-- An image and an error, as the reference yields them. -/
def RefRes8 (D : ImgArg) (e : Int) (r : Ending) (w' : World) : Prop := ∃ y : ImgArg, r = .returned (.tuple #[y.val, .int .i64 e]) ∧ SameD D y ∧ IsImg w' y.val y ∧ FewOk y
/-- Components of a row of the call's own. -/
structure Cz (P : Nat) (oc : Value) (ys : List CompArg) (V : World) : Prop where
  row : Row V P 48 7 oc ys.length (ys.map CompArg.cells).flatten
  pl : ∀ c ∈ ys, Row V P 66 64 c.u c.bs.length (bcells c.bs) ∧ ∀ W', Ar W' 64 c.u c.bs.length (bcells c.bs) → c.Ok W'
theorem Cz.below {P : Nat} {oc : Value} {ys : List CompArg} {V V' : World} (h : Cz P oc ys V) (hb : Below V.heap.size V V') : Cz P oc ys V' := ⟨h.row.grow hb, fun c hc => ⟨(h.pl c hc).1.grow hb, (h.pl c hc).2⟩⟩
theorem Cz.comps {P : Nat} {oc : Value} {ys : List CompArg} {V : World} (h : Cz P oc ys V) (hl : ys.length ≤ 1000000) : IsComps V oc ys :=
  ⟨Ar.elems h.row.ar (fun c hc => by obtain ⟨p, _, rfl⟩ := List.mem_map.1 hc; rfl) (by simp) (by simp only [maxLen]; omega), fun c hc => (h.pl c hc).2 V (h.pl c hc).1.ar⟩
theorem Cz.nil (P : Nat) (V : World) : Cz P (.slice none 0 0) [] V := ⟨Row.nil _ _ _ _, fun c hc => by simp at hc⟩
/-- The boxes: the image, the result, what is built. -/
structure RO (N P : Nat) (x : ImgArg) (wo ho : Int) (oc qc : Value) (ys : List CompArg) (zs : List QuantArg) (w V : World) : Prop where
  l : LI N x w V
  bQ : Blk V (N + 1) #[.int .i64 0, .int .i64 0, .slice none 0 0, .slice none 0 0, .slice none 0 0] 26
  bP : Blk V P #[.int .i64 wo, .int .i64 ho, oc, qc, x.tu] 26
  cs : Cz (P + 1) oc ys V
  qs : Row V (P + 1) 40 65 qc zs.length (zs.map QuantArg.cells).flatten
  qok : ∀ q ∈ zs, q.Ok
  lo : N + 1 < P
theorem RO.below {N P : Nat} {x : ImgArg} {wo ho : Int} {oc qc : Value} {ys : List CompArg} {zs : List QuantArg} {w V V' : World} (h : RO N P x wo ho oc qc ys zs w V) (hb : Below V.heap.size V V') : RO N P x wo ho oc qc ys zs w V' :=
  ⟨h.l.below hb, h.bQ.below hb h.bQ.lt, h.bP.below hb h.bP.lt, h.cs.below hb, h.qs.grow hb, h.qok, h.lo⟩
theorem RO.sides {N P : Nat} {x : ImgArg} {wo ho : Int} {w V : World} (h : RO N P x wo ho (.slice none 0 0) (.slice none 0 0) [] [] w V) (HI : IsImg w x.val x) (a b : Int) :
    RO N P x a b (.slice none 0 0) (.slice none 0 0) [] [] w ((V.setCell ⟨P, 0, none⟩ (.int .i64 a)).setCell ⟨P, 1, none⟩ (.int .i64 b)) := by
  have hlo := h.lo
  have hM := h.l.hM
  have hCB : Below w.heap.size w ((V.setCell ⟨P, 0, none⟩ (.int .i64 a)).setCell ⟨P, 1, none⟩ (.int .i64 b)) := (h.l.hB.setCell (by show w.heap.size ≤ P; omega) _).setCell (by show w.heap.size ≤ P; omega) _
  have n1 : ∀ v, N ≠ (⟨P, v, none⟩ : Addr).block := fun _ => by show N ≠ P; omega
  have n2 : ∀ v, N + 1 ≠ (⟨P, v, none⟩ : Addr).block := fun _ => by show N + 1 ≠ P; omega
  exact ⟨⟨(h.l.bN.other _ _ (n1 0)).other _ _ (n1 1), HI.below hCB, hM, hCB⟩, (h.bQ.other _ _ (n2 0)).other _ _ (n2 1), (h.bP.set 0 _).set 1 _, Cz.nil _ _, Row.nil _ _ _ _, h.qok, hlo⟩
theorem RO.pushC {N P : Nat} {x : ImgArg} {wo ho : Int} {o qc : Value} {ys : List CompArg} {zs : List QuantArg} {w V V' : World} {v' : Value} {c' : CompArg} (HI : IsImg w x.val x) (h : RO N P x wo ho o qc ys zs w V)
    (hg : V.grownBy V' o.ownBlock) (hR : Row V' (P + 1) 48 7 v' (ys.length + 1) ((ys.map CompArg.cells).flatten ++ c'.cells))
    (hc : Row V (P + 1) 66 64 c'.u c'.bs.length (bcells c'.bs)) (hok : ∀ W', Ar W' 64 c'.u c'.bs.length (bcells c'.bs) → c'.Ok W') :
    RO N P x wo ho v' qc (ys ++ [c']) zs w (V'.setCell ⟨P, 2, none⟩ v') := by
  have hlo := h.lo
  have hM := h.l.hM
  have ne : ∀ {g : Nat} {cs : Array Value} {t : TypeId}, Blk V g cs t → t ≠ 48 → some g ≠ o.ownBlock := fun hb ht e => h.cs.row.typed hb ht _ e.symm rfl
  have key : ∀ {g : Nat} {cs : Array Value} {t : TypeId}, Blk V g cs t → t ≠ 48 → g ≠ P → (V'.setCell ⟨P, 2, none⟩ v').heap[g]? = V.heap[g]? := fun {g cs t} hb ht hp =>
    (heap_setCell_other _ _ _ _ hp).trans (hg.block g hb.lt (ne hb ht))
  have nP : ∀ {g : Nat} {cs : Array Value} {t : TypeId}, Blk V g cs t → t ≠ 26 → g ≠ P := fun {g cs t} hb ht e => by
    subst e
    have := hb.symm.trans h.bP
    simp at this
    exact ht this.2
  have hB : Below w.heap.size w (V'.setCell ⟨P, 2, none⟩ v') := (Below.grown h.l.hB (by have := h.l.bN.lt; omega) hg (fun g e => by have := (h.cs.row.lt g e).1; omega)).setCell (p := ⟨P, 2, none⟩) (by show _ ≤ P; omega) _
  have bP' : Blk V' P #[.int .i64 wo, .int .i64 ho, o, qc, x.tu] 26 := h.bP.grown hg (ne h.bP (by decide))
  refine ⟨⟨(key h.l.bN (by decide) (by omega)).trans h.l.bN, HI.below hB, hM, hB⟩, (key h.bQ (by decide) (by omega)).trans h.bQ, bP'.set 2 _, ⟨?_, ?_⟩, h.qs.sameT fun g cs hgb _ => key hgb (by decide) (nP hgb (by decide)), h.qok, hlo⟩
  · have := hR.other ⟨P, 2, none⟩ v' (fun g e => hR.typed bP' (by decide) g e)
    simpa using this
  · intro c hc'
    rcases List.mem_append.1 hc' with hm | hm
    · exact ⟨(h.cs.pl c hm).1.sameT fun g cs hgb _ => key hgb (by decide) (nP hgb (by decide)), (h.cs.pl c hm).2⟩
    · rw [List.mem_singleton] at hm
      subst hm
      exact ⟨hc.sameT fun g cs hgb _ => key hgb (by decide) (nP hgb (by decide)), hok⟩
theorem RO.pushQ {N P : Nat} {x : ImgArg} {wo ho : Int} {o qc : Value} {ys : List CompArg} {zs : List QuantArg} {w V V' : World} {v' : Value} {q' : QuantArg} (HI : IsImg w x.val x) (h : RO N P x wo ho o qc ys zs w V)
    (hg : V.grownBy V' qc.ownBlock) (hR : Row V' (P + 1) 40 65 v' (zs.length + 1) ((zs.map QuantArg.cells).flatten ++ q'.cells)) (hq : q'.Ok) :
    RO N P x wo ho o v' ys (zs ++ [q']) w (V'.setCell ⟨P, 3, none⟩ v') := by
  have hlo := h.lo
  have hM := h.l.hM
  have ne : ∀ {g : Nat} {cs : Array Value} {t : TypeId}, Blk V g cs t → t ≠ 40 → some g ≠ qc.ownBlock := fun hb ht e => h.qs.typed hb ht _ e.symm rfl
  have key : ∀ {g : Nat} {cs : Array Value} {t : TypeId}, Blk V g cs t → t ≠ 40 → g ≠ P → (V'.setCell ⟨P, 3, none⟩ v').heap[g]? = V.heap[g]? := fun {g cs t} hb ht hp =>
    (heap_setCell_other _ _ _ _ hp).trans (hg.block g hb.lt (ne hb ht))
  have nP : ∀ {g : Nat} {cs : Array Value} {t : TypeId}, Blk V g cs t → t ≠ 26 → g ≠ P := fun {g cs t} hb ht e => by
    subst e
    have := hb.symm.trans h.bP
    simp at this
    exact ht this.2
  have hB : Below w.heap.size w (V'.setCell ⟨P, 3, none⟩ v') := (Below.grown h.l.hB (by have := h.l.bN.lt; omega) hg (fun g e => by have := (h.qs.lt g e).1; omega)).setCell (p := ⟨P, 3, none⟩) (by show _ ≤ P; omega) _
  have bP' : Blk V' P #[.int .i64 wo, .int .i64 ho, o, qc, x.tu] 26 := h.bP.grown hg (ne h.bP (by decide))
  refine ⟨⟨(key h.l.bN (by decide) (by omega)).trans h.l.bN, HI.below hB, hM, hB⟩, (key h.bQ (by decide) (by omega)).trans h.bQ, bP'.set 3 _, ⟨h.cs.row.sameT fun g cs hgb _ => key hgb (by decide) (nP hgb (by decide)), fun c hm => ⟨(h.cs.pl c hm).1.sameT fun g cs hgb _ => key hgb (by decide) (nP hgb (by decide)), (h.cs.pl c hm).2⟩⟩, ?_, ?_, hlo⟩
  · have := hR.other ⟨P, 3, none⟩ v' (fun g e => hR.typed bP' (by decide) g e)
    simpa using this
  · intro q hm
    rcases List.mem_append.1 hm with hm | hm
    · exact h.qok q hm
    · rw [List.mem_singleton] at hm
      subst hm
      exact hq
/-- A component while it is built: the old one, the picture, the new one. -/
structure FS (C C2 D : Nat) (a0 a1 a2 a3 a4 a5 b0 b1 b2 b3 b4 b5 : Int) (u pu v : Value) (n : Nat) (T : List Nat) (L : List (List Int)) (V0 V : World) : Prop where
  bC : Blk V C #[.int .i64 a0, .int .i64 a1, .int .i64 a2, .int .i64 a3, .int .i64 a4, .int .i64 a5, u] 48
  bp : Blk V C2 #[.int .i64 b4, .int .i64 b5, pu] 61
  pn : Row V 0 3 1 pu n (Pc.cells T)
  bD : Blk V D #[.int .i64 b0, .int .i64 b1, .int .i64 b2, .int .i64 b3, .int .i64 b4, .int .i64 b5, v] 48
  row : Row V (D + 1) 66 64 v L.length (bcells L)
  hB : Below C V0 V
  lt : C < C2 ∧ C2 < D
theorem FS.below {C C2 D : Nat} {a0 a1 a2 a3 a4 a5 b0 b1 b2 b3 b4 b5 : Int} {u pu v : Value} {n : Nat} {T : List Nat} {L : List (List Int)} {V0 V V' : World} (h : FS C C2 D a0 a1 a2 a3 a4 a5 b0 b1 b2 b3 b4 b5 u pu v n T L V0 V) (hb : Below V.heap.size V V') : FS C C2 D a0 a1 a2 a3 a4 a5 b0 b1 b2 b3 b4 b5 u pu v n T L V0 V' :=
  ⟨h.bC.below hb h.bC.lt, h.bp.below hb h.bp.lt, h.pn.grow hb, h.bD.below hb h.bD.lt, h.row.grow hb, h.hB.trans (hb.mono (Nat.le_of_lt h.bC.lt)), h.lt⟩
/-- What is known of a picture's numbers. -/
structure PN (k : Nat) (bs : List (List Int)) (cn rn cols n : Nat) (T : List Nat) (M : List (List Int)) : Prop where
  len : T.length = n
  ml : M.length = n
  bl : bs.length = n
  at_ : ∀ j, j < n → T.getD j 0 < n ∧ Pl.blk M j = Tu.block k (Pl.blk bs (T.getD j 0))
/-- A table while it is built. -/
def qPart (a : Int) (t : List Int) (n : Nat) : QuantArg := ⟨a, t.take n ++ List.replicate (64 - n) 0⟩
theorem qPart_size {a : Int} {t : List Int} {n : Nat} (ht : t.length = 64) (h : n ≤ 64) : (qPart a t n).arr.size = 65 := by
  simp [QuantArg.arr, QuantArg.cells, qPart, ht]
  omega
theorem qPart_step {a : Int} {t : List Int} {n : Nat} (ht : t.length = 64) (h : n < 64) : (qPart a t n).arr.setIfInBounds (1 + n) (.int .u16 (t.getD n 0)) = (qPart a t (n + 1)).arr := by
  have hl : (t.take n).length = n := by rw [List.length_take]; omega
  have e : (t.take n ++ List.replicate (64 - n) 0).set n (t.getD n 0) = t.take (n + 1) ++ List.replicate (64 - (n + 1)) 0 := by
    rw [List.set_append_right _ _ (by omega), hl, Nat.sub_self, show 64 - n = (64 - (n + 1)) + 1 by omega, List.replicate_succ, List.set_cons_zero, List.take_add_one, List.getElem?_eq_getElem (by omega), List.append_assoc]
    simp [List.getD_eq_getElem?_getD, List.getElem?_eq_getElem (show n < t.length by omega)]
  unfold QuantArg.arr QuantArg.cells qPart
  rw [List.setIfInBounds_toArray, Nat.add_comm, List.set_cons_succ, ← e, List.map_set]
theorem zeroQ_set (a : Int) (t : List Int) : Tryz.zeroCells40.setIfInBounds 0 (.int .i64 a) = (qPart a t 0).arr := by
  have h : Tryz.zeroCells40 = zeroQuant := by kernel_rfl
  rw [h]
  simp [zeroQuant, QuantArg.arr, QuantArg.cells, qPart, ints]
theorem qPart_all {a : Int} {t : List Int} (ht : t.length = 64) : qPart a t 64 = ⟨a, t⟩ := by
  unfold qPart
  rw [List.take_of_length_le (by omega)]
  simp
/-- An entry of a table in the input's row. -/
theorem q_entry {w : World} {a : Addr} {cap : Nat} {qs : List QuantArg} (h : IsQuants w (.slice (some a) qs.length cap) qs) {i : Nat} (hi : i < qs.length) {m : Nat} (hm : m < 64) :
    w.cell? ⟨(a.add (i * 65)).block, (a.add (i * 65)).off + 1 + m, none⟩ = some (.int .u16 ((qs[i]'hi).q.getD m 0)) := by
  have hl := (h.ok _ (List.getElem_mem hi)).l64
  obtain ⟨a', cap', he, -, hj⟩ := h.el.get (by decide) (i := i) (by simpa using hi)
  simp only [Value.slice.injEq, Option.some.injEq] at he
  obtain ⟨rfl, -⟩ := he
  rw [getD_map' _ _ _ _ hi] at hj
  have := hj (1 + m) (by omega) (by omega)
  rw [Nat.add_assoc, this]
  unfold QuantArg.cells
  rw [Nat.add_comm 1 m, List.getElem?_cons_succ, List.getElem?_map, List.getElem?_eq_getElem (by omega)]
  simp [List.getD_eq_getElem?_getD, List.getElem?_eq_getElem (show m < (qs[i]'hi).q.length by omega)]
theorem quantc_one (q : QuantArg) : ∀ u ∈ q.cells, u.oneCell' = true := by
  intro u hu
  simp only [QuantArg.cells, List.mem_cons, List.mem_map] at hu
  rcases hu with rfl | ⟨y, _, rfl⟩ <;> rfl
theorem ref_image18_no (x : ImgArg) (hf : FewOk x) (k : Int) (h0 : mayE x k ≠ 0) (w : World) (hI : IsImg w x.val x) :
    Calls Tryz.prog 8 #[x.val, .int .i64 k] w fun r w' => RefRes8 (flipD x k) (mayE x k) r w' ∧ Below w.heap.size w w' := by
  rw [flipD_no h0]
  have hmay := fun V h => ref_may18 x hf k V h
  generalize mayE x k = E at *
  have hL := LI.begin hI
  obtain ⟨N, hN⟩ : ∃ N, N = w.heap.size := ⟨_, rfl⟩
  rw [← hN] at hL
  have HN := Lib.hid hN
  have t0 : (E != 0) = true := by simpa using h0
  unfold ImgArg.val at hmay ⊢
  clear hN hI h0
  go_enter Tryz.func8, Tryz.ntmps8
  go_upto_region 1 with fail
  refine wp_world (fun V => LI N x w V ∧ Blk V (N + 1) #[.int .i64 0, .int .i64 0, .slice none 0 0, .slice none 0 0, .slice none 0 0] 26) ⟨hL.below ((Below.refl _ _).alloc (Nat.le_refl _) _), Blk.new' _ _ _ (by rw [HN.out]; simp)⟩ ?_
  rw [← HN.out]
  clear hL
  rintro V ⟨hL, bQ⟩
  have hNN := hL.hM
  go_wp2_with (first
    | (refine wpList_load_row rfl 26 _ rfl N rfl 26 _ _ _ hL.bN Tryz.underlying26 rfl (by kernel_rfl) ?_)
    | (go_at_call 7; refine (hmay _ hL.img).mono ?_; rintro r w3 ⟨rfl, hb3⟩; replace hL := hL.below hb3; replace bQ := bQ.below hb3 bQ.lt)
    | (refine wpList_store_row rfl 26 _ _ rfl (N + 1) _ rfl rfl 26 _ bQ (by kernel_rfl) rfl (by simp [Value.oneCell']) ?_))
  refine bodyPost_ret (results_row_tmp rfl _ _ (N + 1) 26 _ _ rfl (bQ.row _) Tryz.underlying26 rfl (by kernel_rfl)) rfl ?_
  exact ⟨⟨zeroI, rfl, SameD.refl _, zeroI_img _, zeroI_few⟩, Below.setRow hL.hB (by omega) _⟩
end Go.Proofs.YtgmhhocpdfdplaaGreat
