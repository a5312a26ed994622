/- aquatintlaw22.PastAll, walked. -/
import Derived.Test.YtcdfamllamjpeaaEntEq
import Derived.Test.YtcdfamllamjpeaaRPast
import Derived.Test.YtcdfamllamjpeaaPastSize
import Derived.Test.YtcdfamllamjpeaaOpenSl
import Derived.Test.YtcdfamllamjpeaaRows
namespace Go.Proofs.Ytcdfamllamjpeaa
open Go.RowKit Go.Shelf Go.ChangeShapes
attribute [local go_sem] Oper.semAt_some
set_option maxRecDepth 100000
namespace Pa
theorem At.apart {w : World} {b most : Nat} {u : Value} {l : List Ent} (hA : At w b most u l) {g : Nat} {cs : Array Value} {t : TypeId} (hb : Blk w g cs t) (h1 : t ≠ 61) (h2 : t ≠ 29) : ¬ May b u g := by
  rintro (h | h)
  · subst h
    have := hA.box.symm.trans hb
    simp at this
    exact h1 this.2.symm
  · exact hA.row.typed hb h2 g h rfl
theorem RAt.chg {w w' : World} {b most : Nat} {u : Value} {l : List Ent} {rb rm : Nat} {ru : Value} {rl : List Ent} (h : RAt w rb rm ru rl) (hA : At w b most u l) (hc : Chg (May b u) w w') : RAt w' rb rm ru rl := by
  refine ⟨h.box.chg hc (hA.apart h.box (by decide) (by decide)), h.view.same fun g hg => hc.block g (h.view.lt g hg) ?_⟩
  rcases h.view.2 with ⟨h1, _⟩ | ⟨g', off, cap, cur, h1, _, _, h4, _⟩
  · rw [h1] at hg; cases hg
  · rw [h1] at hg; cases hg
    exact hA.apart h4 (by decide) (by decide)
theorem At.rchg {w w' : World} {b most : Nat} {u : Value} {l : List Ent} {rb rm : Nat} {ru : Value} {rl : List Ent} (hA : At w b most u l) (h : RAt w rb rm ru rl) (hc : Chg (· = rb) w w') : At w' b most u l := by
  refine ⟨hA.box.chg hc ?_, hA.row.chg hc fun g hg e => ?_⟩
  · rintro rfl
    have := hA.box.symm.trans h.box
    simp at this
  · subst e
    exact hA.row.typed h.box (by decide) g hg rfl
theorem RAt.cellsOf {w w' : World} {rb rm : Nat} {ru : Value} {rl : List Ent} (h : RAt w rb rm ru rl) (hc : CellsOf w w') : RAt w' rb rm ru rl := by
  refine ⟨hc.blk h.box, h.view.1, ?_⟩
  rcases h.view.2 with h | ⟨g, off, cap, cur, h1, h2, h3, h4, h5⟩
  · exact .inl h
  · exact .inr ⟨g, off, cap, cur, h1, h2, h3, hc.blk h4, h5⟩
/-- What a past of at most so many holds behind a push. -/
def psh (most : Nat) (l : List Ent) (x : Ent) : List Ent := if most < l.length + 1 then (l ++ [x]).tail else l ++ [x]
theorem psh_len (most : Nat) (l : List Ent) (x : Ent) (h : l.length ≤ most) : (psh most l x).length ≤ most := by
  unfold psh
  split
  · simp; omega
  · simp; omega
end Pa
theorem own_push {N : Nat} {w W : World} {b most : Nat} {u : Value} {l : List Pa.Ent} (x : Pa.Ent) (hl : l.length ≤ most) (hm : most ≤ 100000) (h : Pa.Own N w W b most u l) :
    Calls Try.prog 10 #[.pointer (some ⟨b, 0, none⟩), Pa.val x] W fun e w' => ∃ v, e = .returned v ∧ ∃ u', Pa.Own N w w' b most u' (Pa.psh most l x) ∧ Chg (Pa.May b u) W w' := by
  unfold Pa.psh
  by_cases hf : most < l.length + 1
  · rw [if_pos hf]
    obtain ⟨y, m, hy⟩ : ∃ y m, l ++ [x] = y :: m := by cases l <;> exact ⟨_, _, rfl⟩
    rw [hy]
    exact (own_push_full x y m hf (by omega) hy h).mono fun e w' ⟨h1, u', h2, h3⟩ => ⟨_, h1, u', h2, h3⟩
  · rw [if_neg hf]
    exact (own_push_room x (by omega) hm h).mono fun e w' ⟨h1, u', h2, h3⟩ => ⟨_, h1, u', h2, h3⟩
theorem rown_push (b most : Nat) (u : Value) (x : Pa.Ent) (l : List Pa.Ent) (hl : l.length ≤ most) (hm : most ≤ 100000) (w : World) (h : Pa.RAt w b most u l) :
    Calls Try.prog 14 #[.pointer (some ⟨b, 0, none⟩), Pa.val x] w fun e w' => ∃ v, e = .returned v ∧ ∃ u', Pa.RAt w' b most u' (Pa.psh most l x) ∧ Chg (· = b) w w' := by
  refine (rpast_push b most u x l (by omega) w h).mono ?_
  rintro e w' ⟨h1, h2⟩
  unfold Pa.psh
  by_cases hf : most < l.length + 1
  · rw [if_pos hf]
    obtain ⟨y, m, hy⟩ : ∃ y m, l ++ [x] = y :: m := by cases l <;> exact ⟨_, _, rfl⟩
    obtain ⟨e1, u', e2, e3, _⟩ := h1 hf y m hy
    rw [hy]
    exact ⟨_, e1, u', e2, e3⟩
  · rw [if_neg hf]
    obtain ⟨e1, u', e2, e3, _⟩ := h2 (by omega)
    exact ⟨_, e1, u', e2, e3⟩
theorem load_bool (g : Nat) (v : Value) (hv : ∃ b, v = .bool b) (w : World) (h : w.cell? ⟨g, 0, none⟩ = some v) : (loadVar 4 ⟨g, 0, none⟩).run Try.prog w = .ok v w := by
  obtain ⟨b, rfl⟩ := hv
  go_simp
namespace pastAll
/-- What both pasts hold behind the first k pushes. -/
def upto (most : Nat) (xs : List Int) (k : Nat) : List Pa.Ent := (xs.take k).foldl (fun l x => Pa.psh most l (0, 0, x)) []
theorem upto_succ (most : Nat) (xs : List Int) (k : Nat) (h : k < xs.length) : upto most xs (k + 1) = Pa.psh most (upto most xs k) (0, 0, xs.getD k 0) := by
  unfold upto
  rw [List.take_add_one, List.foldl_append]
  simp [h]
theorem upto_len (most : Nat) (xs : List Int) (k : Nat) : (upto most xs k).length ≤ most := by
  unfold upto
  generalize xs.take k = ys
  suffices h : ∀ l : List Pa.Ent, l.length ≤ most → (ys.foldl (fun l x => Pa.psh most l (0, 0, x)) l).length ≤ most by exact h [] (by simp)
  induction ys with
  | nil => intro l h; exact h
  | cons y ys ih => intro l h; exact ih _ (Pa.psh_len most l _ h)
/-- Boxes: the stop, the result, the reference's past. -/
structure Fix (N : Nat) (st : Int) (c7 rb : Nat) (W : World) : Prop where
  bS : Blk W N #[.int .u8 st] 5
  bR : Blk W (N + 1) #[.bool false] 4
  bC : Blk W c7 #[.pointer (some ⟨rb, 0, none⟩)] 40
theorem Fix.below {N : Nat} {st : Int} {c7 rb : Nat} {W W' : World} (h : Fix N st c7 rb W) (hb : Below W.heap.size W W') : Fix N st c7 rb W' := ⟨h.bS.below hb h.bS.lt, h.bR.below hb h.bR.lt, h.bC.below hb h.bC.lt⟩
theorem Fix.chg {N : Nat} {st : Int} {c7 rb : Nat} {W W' : World} {b most : Nat} {u : Value} {l : List Pa.Ent} (h : Fix N st c7 rb W) (hA : Pa.At W b most u l) (hc : Chg (Pa.May b u) W W') : Fix N st c7 rb W' :=
  ⟨h.bS.chg hc (hA.apart h.bS (by decide) (by decide)), h.bR.chg hc (hA.apart h.bR (by decide) (by decide)), h.bC.chg hc (hA.apart h.bC (by decide) (by decide))⟩
theorem Fix.cellsOf {N : Nat} {st : Int} {c7 rb : Nat} {W W' : World} (h : Fix N st c7 rb W) (hc : CellsOf W W') : Fix N st c7 rb W' := ⟨hc.blk h.bS, hc.blk h.bR, hc.blk h.bC⟩
theorem blk_ne {W : World} {g k : Nat} {cs ds : Array Value} {t t' : TypeId} (h : Blk W g cs t) (h' : Blk W k ds t') (ht : t ≠ t') : g ≠ k := by
  rintro rfl
  have := h.symm.trans h'
  simp at this
  exact ht this.2
theorem Fix.rchg {N : Nat} {st : Int} {c7 rb : Nat} {W W' : World} {most : Nat} {u : Value} {l : List Pa.Ent} (h : Fix N st c7 rb W) (hA : Pa.RAt W rb most u l) (hc : Chg (· = rb) W W') : Fix N st c7 rb W' :=
  ⟨h.bS.chg hc (blk_ne h.bS hA.box (by decide)), h.bR.chg hc (blk_ne h.bR hA.box (by decide)), h.bC.chg hc (blk_ne h.bC hA.box (by decide))⟩
theorem Fix.set {N : Nat} {st : Int} {c7 rb c : Nat} {W : World} {cs : Array Value} (h : Fix N st c7 rb W) (hb : Blk W c cs 3) (v : Value) : Fix N st c7 rb (W.setCell ⟨c, 0, none⟩ v) :=
  ⟨h.bS.other _ _ (blk_ne h.bS hb (by decide)), h.bR.other _ _ (blk_ne h.bR hb (by decide)), h.bC.other _ _ (blk_ne h.bC hb (by decide))⟩
theorem rat_set {rb rm c : Nat} {ru : Value} {rl : List Pa.Ent} {W : World} {cs : Array Value} (h : Pa.RAt W rb rm ru rl) (hb : Blk W c cs 3) (v : Value) : Pa.RAt (W.setCell ⟨c, 0, none⟩ v) rb rm ru rl :=
  ⟨h.box.other _ _ (blk_ne h.box hb (by decide)), h.view.other _ _ (h.view.typed hb (by decide))⟩
theorem own_rchg {N : Nat} {w W W' : World} {b most : Nat} {u : Value} {l : List Pa.Ent} {rb rm : Nat} {ru : Value} {rl : List Pa.Ent} (h : Pa.Own N w W b most u l) (hA : Pa.RAt W rb rm ru rl) (hN : N ≤ rb) (hc : Chg (· = rb) W W') : Pa.Own N w W' b most u l :=
  ⟨h.1.trans (hc.below h.2.1 (fun k e => by subst e; exact hN)), Nat.le_trans h.2.1 hc.size, h.2.2.1.rchg hA hc, h.2.2.2.1, h.2.2.2.2⟩
/-- Between two rounds: k have come. -/
structure Rd (N : Nat) (st : Int) (rb n c : Nat) (ru : Value) (L : List Pa.Ent) (w : World) (k : Nat) (W : World) : Prop where
  bc : Blk W c #[.int .i64 k] 3
  hF : Fix N st (rb + 1) rb W
  hRA : Pa.RAt W rb n ru L
  hB : Below N w W
  hN : N ≤ W.heap.size
theorem Rd.below {N : Nat} {st : Int} {rb n c : Nat} {ru : Value} {L : List Pa.Ent} {w : World} {k : Nat} {W W' : World} (h : Rd N st rb n c ru L w k W) (hb : Below W.heap.size W W') : Rd N st rb n c ru L w k W' :=
  ⟨h.bc.below hb h.bc.lt, h.hF.below hb, h.hRA.below hb, h.hB.trans (hb.mono h.hN), Nat.le_trans h.hN hb.size⟩
theorem Rd.next {N : Nat} {st : Int} {rb n c : Nat} {ru : Value} {L : List Pa.Ent} {w : World} {k : Nat} {W : World} (h : Rd N st rb n c ru L w k W) (hc : N ≤ c) (k' : Nat) (hk : k' = k + 1) : Rd N st rb n c ru L w k' (W.setCell ⟨c, 0, none⟩ (.int .i64 ((k : Int) + 1))) := by
  subst hk
  exact ⟨h.bc.set 0 _, h.hF.set h.bc _, rat_set h.hRA h.bc _, h.hB.setCell (p := ⟨c, 0, none⟩) hc _, by simpa using h.hN⟩
theorem Rd.own (N : Nat) (st : Int) (rb n c : Nat) (ru : Value) (L : List Pa.Ent) (w : World) (B : Nat) (hw : N ≤ w.heap.size) (hB : N ≤ B) : OwnFrom B (fun (pre : List (Int × Pa.Ent)) W => Rd N st rb n c ru L w pre.length W) := by
  intro s X Y row hs hg hr
  have hc := CellsOf.of hg (fun r e => (hr r e).2)
  exact ⟨hc.blk hs.bc, hs.hF.cellsOf hc, hs.hRA.cellsOf hc, ownFrom_below (β := Unit) hw hB () X Y row hs.hB hg hr, Nat.le_trans hs.hN hg.size⟩
/-- A round has left. -/
structure Out (N : Nat) (L : List Pa.Ent) (w : World) (cd : Code) (pre : List (Int × Pa.Ent)) (W : World) : Prop where
  cd : cd = .ret
  res : ∃ v, Blk W (N + 1) #[.bool v] 4 ∧ (pre <+: Pa.enum L → v = true)
  hB : Below N w W
theorem Out.own (N : Nat) (L : List Pa.Ent) (w : World) (cd : Code) (B : Nat) (hw : N ≤ w.heap.size) (hB : N ≤ B) : OwnFrom B (Out N L w cd) := by
  intro s X Y row hs hg hr
  have hc := CellsOf.of hg (fun r e => (hr r e).2)
  exact ⟨hs.cd, hs.res.elim fun v hv => ⟨v, hc.blk hv.1, hv.2⟩, ownFrom_below (β := Unit) hw hB () X Y row hs.hB hg hr⟩
theorem enum_prefix (L : List Pa.Ent) (pre : List (Int × Pa.Ent)) (x : Int × Pa.Ent) (h : pre.length < L.length) : (pre ++ [x]) <+: Pa.enum L ↔ pre <+: Pa.enum L ∧ x = ((pre.length : Int), L.getD pre.length (0, 0, 0)) := by
  constructor
  · rintro ⟨t, ht⟩
    rw [List.append_assoc] at ht
    refine ⟨⟨_, ht⟩, ?_⟩
    have e := congrArg (fun l => l[pre.length]?) ht
    simp [Pa.enum, h] at e
    rw [e]
    simp [h]
  · rintro ⟨⟨t, ht⟩, rfl⟩
    have hl := congrArg List.length ht
    rw [List.length_append, Pa.enum_len] at hl
    cases t with
    | nil => simp at hl; omega
    | cons z t =>
      refine ⟨t, ?_⟩
      have e := congrArg (fun l => l[pre.length]?) ht
      simp [Pa.enum, h] at e
      rw [← ht, e]
      simp [h]
set_option maxHeartbeats 4000000 in
theorem walk (m : Int) (m0 : 0 ≤ m) (m1 : m ≤ 255) (n : Nat) (hn : m % 65 = n) (st : Int) (s0 : 0 ≤ st) (s1 : st ≤ 255) (v : Value) (xs : List Int) (w : World) (hv : Ints w .i64 v xs) :
    Calls Try.prog 5 #[.int .u8 m, v, .int .u8 st] w fun e w' => e = .returned (.bool true) ∧ Below w.heap.size w w' := by
  have hn65 : n ≤ 64 := by omega
  obtain ⟨N, hN⟩ : ∃ N, N = w.heap.size := ⟨_, rfl⟩
  have HN := Lib.hid hN
  rw [← hN]
  clear hN
  have hmax := hv.1
  obtain ⟨bv, cv, rfl⟩ := hv.len
  refine (callsIn_wide (n := 9)).1 ?_
  refine callsIn_of_wp_marks Try.func5 rfl trivial ?_ rfl
  simp only [Try.ntmps5, List.size_toArray, List.length_cons, List.length_nil, Nat.reduceAdd, Nat.reduceSub, Array.replicate_succ, Array.replicate_zero, List.push_toArray, List.append_toArray, List.nil_append, List.cons_append]
  refine wpIn_wide.2 ?_
  go_upto_region 1 with fail
  refine wp_world (fun W => Blk W N #[.int .u8 st] 5 ∧ Blk W (N + 1) #[.bool false] 4 ∧ Below N w W) ⟨(Blk.new' _ _ _ HN.out).alloc _, Blk.new' _ _ _ (by rw [HN.out]; simp), ((Below.refl _ _).alloc (by rw [HN.out]; exact Nat.le_refl _) _).alloc (by rw [HN.out]; simp) _⟩ ?_
  rw [← HN.out]
  rintro W0 ⟨bS, bR, hB0⟩
  have hR0 : N + 1 < W0.heap.size := bR.lt
  by_cases hlen : 200 < xs.length
  · have hmx : xs.length ≤ 9223372036854775807 := by simp only [maxLen] at hmax; omega
    have f1 := bR.free 0
    go_wp2_with (first
      | (go_at_call 8; refine (awake22 _).mono ?_; rintro e w1 ⟨rfl, hb⟩; replace bR := bR.below hb bR.lt; replace hB0 := hB0.trans (hb.mono (by omega)); replace hR0 := Nat.lt_of_lt_of_le hR0 hb.size; have f1 := bR.free 0; have q1 := bR.cell 0))
    have bE := bR.set 0 (.bool true)
    exact leave_plain (results_box rfl _ _ (N + 1) _ _ rfl bE (load_bool _ _ ⟨_, rfl⟩)) ⟨rfl, hB0.setCell (p := ⟨N + 1, 0, none⟩) (by simp) _⟩
  · have hmx : xs.length ≤ 200 := by omega
    have tm : m % 65 = n := hn
    go_upto_region 3 with (first
      | (go_at_call 8; refine (awake22 _).mono ?_; rintro e w1 ⟨rfl, hb⟩; replace bR := bR.below hb bR.lt; replace bS := bS.below hb bS.lt; replace hB0 := hB0.trans (hb.mono (by omega)); replace hR0 := Nat.lt_of_lt_of_le hR0 hb.size))
    go_upto_region 4 with fail
    obtain ⟨rb, hrb⟩ : ∃ rb, rb = w1.heap.size := ⟨_, rfl⟩
    have hNr : N ≤ rb := by omega
    have hz1 : w1.heap.size ≤ (w1.alloc (.cells #[.int .i64 n, .slice none 0 0] 43)).heap.size := by simp
    refine wp_world (fun W => Fix N st (rb + 1) rb W ∧ Pa.RAt W rb n (.slice none 0 0) [] ∧ Below N w W ∧ N ≤ W.heap.size)
      ⟨⟨(bS.alloc _).alloc _, (bR.alloc _).alloc _, by rw [hrb]; exact Blk.new' _ _ _ (by simp)⟩, ⟨(Blk.new' _ _ _ hrb).alloc _, View.nil _ _ _⟩, (hB0.alloc (by omega) _).alloc (by omega) _, by simp; omega⟩ ?_
    rw [← hrb]
    clear bS bR hB0 hR0 hb hrb hz1
    rintro W2 ⟨hF, hRA, hB, hNW⟩
    have q1 := hF.bC.cell 0
    have q2 := hRA.box.cell 0
    go_upto_region 5 with (go_at_call 9; refine (past_new n hn65 W2).mono ?_; rintro e w2 ⟨rfl, hA, hb⟩)
    obtain ⟨b, hbe⟩ : ∃ b, b = W2.heap.size := ⟨_, rfl⟩
    rw [← hbe] at hA ⊢
    have hO : Pa.Own N w w2 b n (.slice none 0 0) [] := ⟨hB.trans (hb.mono hNW), Nat.le_trans hNW hb.size, hA, by omega, fun g hg => by cases hg⟩
    replace hF := hF.below hb
    replace hRA := hRA.below hb
    clear hB hNW hb hA q1 q2 hbe
    go_wp2_with fail
    go_loopw [10] (fun i wr => ∃ (j : Nat) (u ru : Value), j ≤ xs.length ∧ i = .int .i64 j ∧ Pa.Own N w wr b n u (upto n xs j) ∧ Fix N st (rb + 1) rb wr ∧ Pa.RAt wr rb n ru (upto n xs j)) (fun i _ => xs.length - (intOf i).toNat)
    case atStart => exact ⟨0, _, _, by omega, rfl, hO, hF, hRA⟩
    case round =>
      clear hO hF hRA
      obtain ⟨j, u, ru, hj, rfl, hO, hF, hRA⟩ := hrel
      by_cases hlt : j < xs.length
      · have hv3 : Ints wr .i64 (.slice bv xs.length cv) xs := hv.below (by rw [← HN.out]; exact hO.1)
        rcases hv3.2.2 with ⟨_, h0⟩ | ⟨ad, cap, hsl, hc⟩
        · subst h0; simp at hlt
        obtain ⟨rfl, rfl⟩ : bv = some ad ∧ cv = cap := by simpa using hsl
        have cj := hc j hlt
        obtain ⟨x, hx⟩ : ∃ x, xs.getD j 0 = x := ⟨_, rfl⟩
        rw [hx] at cj
        have HX := Lib.hid hx
        clear hx hc hv3 hsl
        have hp := own_push (0, 0, x) (upto_len n xs j) (by omega) hO
        unfold Pa.val at hp
        go_upto_region 9 with (go_at_call 10; refine hp.mono ?_; rintro e w4 ⟨v4, rfl, u4, hO4, hC4⟩)
        replace hF := hF.chg hO.2.2.1 hC4
        replace hRA := hRA.chg hO.2.2.1 hC4
        clear hp hO cj hC4
        refine wp_region_mono [0, 1, 2, 3, 4, 5] [6] (fun W => Pa.Own N w W b n u4 (Pa.psh n (upto n xs j) (0, 0, x)) ∧ Fix N st (rb + 1) rb W ∧ Pa.RAt W rb n ru (upto n xs j)) (fun _ => none) (fun _ => []) (by kernel_rfl) (by kernel_rfl)
          ⟨hO4.grow (Below.refl _ _).drew, hF.below (Below.refl _ _).drew, hRA.below (Below.refl _ _).drew⟩ (by intro i s hs; cases hs) ?_
        clear hO4 hF hRA
        simp only [pick, List.getD_cons_succ, List.getD_cons_zero, List.zip_cons_cons, List.zip_nil_right]
        refine mono_pure (v := .pointer (some ⟨rb, 0, none⟩)) (by rfl) rfl (fun w1 hG => by have cy := hG.2.1.bC.cell 0; go_simp; try with_reducible rfl) ?_
        simp only [Act.put, List.setIfInBounds_toArray, List.set_cons_zero, List.set_cons_succ]
        (repeat (first | (refine mono_skip (by rfl) ?_; simp only [Act.put, List.setIfInBounds_toArray, List.set_cons_zero, List.set_cons_succ]) | (refine mono_pure (v := ?_) (by rfl) rfl ?_ ?_; rotate_left; (intro wS hS; go_simp; try with_reducible rfl); simp only [Act.put, List.setIfInBounds_toArray, List.set_cons_zero, List.set_cons_succ])))
        refine mono_pure (v := .int .i64 x) (by rfl) rfl (fun w1 hG => by have cy := (hv.below (w' := w1) (by rw [← HN.out]; exact hG.1.1)).at hlt; rw [HX.out] at cy; go_simp; try with_reducible rfl) ?_
        simp only [Act.put, List.setIfInBounds_toArray, List.set_cons_zero, List.set_cons_succ]
        (repeat (first | (refine mono_skip (by rfl) ?_; simp only [Act.put, List.setIfInBounds_toArray, List.set_cons_zero, List.set_cons_succ]) | (refine mono_pure (v := ?_) (by rfl) rfl ?_ ?_; rotate_left; (intro wS hS; go_simp; try with_reducible rfl); simp only [Act.put, List.setIfInBounds_toArray, List.set_cons_zero, List.set_cons_succ])))
        refine mono_nil ?_
        rintro w5 ⟨hO5, hF5, hRA5⟩ _
        have hp := rown_push rb n ru (0, 0, x) (upto n xs j) (upto_len n xs j) (by omega) w5 hRA5
        unfold Pa.val at hp
        go_wp2_with (go_at_call 14; refine hp.mono ?_; rintro e w6 ⟨v6, rfl, ru6, hRA6, hC6⟩)
        refine ⟨⟨j + 1, u4, ru6, by omega, by go_num, ?_, hF5.rchg hRA5 hC6, ?_⟩, by simp [intOf]; omega⟩
        · rw [upto_succ n xs j hlt, HX.out]
          exact own_rchg hO5 hRA5 hNr hC6
        · rw [upto_succ n xs j hlt, HX.out]
          exact hRA6
      · obtain rfl : j = xs.length := by omega
        obtain ⟨L, hL⟩ : ∃ L, upto n xs xs.length = L := ⟨_, rfl⟩
        have hLn : L.length ≤ 64 := by have := upto_len n xs xs.length; rw [hL] at this; omega
        rw [hL] at hO hRA
        go_upto_region 11 with fail
        obtain ⟨c, hc⟩ : ∃ c, c = wr.heap.size := ⟨_, rfl⟩
        refine wp_world (fun W => Blk W c #[.int .i64 0] 3 ∧ Pa.Own N w W b n u L ∧ Fix N st (rb + 1) rb W ∧ Pa.RAt W rb n ru L) ⟨Blk.new' _ _ _ hc, hO.grow ((Below.refl _ _).alloc (Nat.le_refl _) _), hF.below ((Below.refl _ _).alloc (Nat.le_refl _) _), hRA.below ((Below.refl _ _).alloc (Nat.le_refl _) _)⟩ ?_
        rw [← hc]
        have hNc : N ≤ c := by rw [hc]; exact hO.2.1
        clear hc hO hF hRA hL
        rintro W5 ⟨bc, hO, hF, hRA⟩
        go_wp2_with (go_at_call 15; refine (past_all _ _).mono ?_; rintro e w3 ⟨rfl, rfl⟩)
        obtain ⟨W6, hW6⟩ : ∃ W6, W5.alloc (.cells #[.pointer (some ⟨b, 0, none⟩)] 24) = W6 := ⟨_, rfl⟩
        obtain ⟨k, hk⟩ : ∃ k, k = W5.heap.size := ⟨_, rfl⟩
        have bk : Blk W6 k #[.pointer (some ⟨b, 0, none⟩)] 24 := by rw [← hW6]; exact Blk.new' _ _ _ hk
        have hb6 : Below W5.heap.size W5 W6 := by rw [← hW6]; exact (Below.refl _ _).alloc (Nat.le_refl _) _
        have hN0 : N ≤ w.heap.size := by rw [HN.out]; exact Nat.le_refl _
        rw [hW6, ← hk]
        replace bc := bc.below hb6 bc.lt
        replace hO := hO.grow hb6
        replace hF := hF.below hb6
        replace hRA := hRA.below hb6
        clear hW6 hk hb6
        have hNW6 := hO.2.1
        have hc6 := bc.lt
        refine wp_rangeFunc_box (n := 9) (sl := fun x Bx => [(57, .int .i64 x.1), (58, Pa.val x.2), (12, .int .i64 x.1), (13, .pointer (some ⟨Bx, 0, none⟩))]) (c := c) (cs := fun x : Int × Pa.Ent => #[.int .i64 x.2.1, .int .i64 x.2.2.1, .int .i64 x.2.2.2]) (t := 29) (by omega) (gf := 24) (lb := #[.pointer (some ⟨k, 0, none⟩)]) rfl (enters_of Try.func24 (by kernel_rfl) rfl)
          (past_stops _ b n u L (by omega) k W6 bk.lt (bk.cell 0) hO.2.2.1) (fun _ => rfl)
          (fun pre W => Rd N st rb n c ru L w pre.length W) (Out N L w) (Rd.own N st rb n c ru L w _ hN0 hNW6) (fun cd => Out.own N L w cd _ hN0 hNW6) ⟨bc, hF, hRA, hO.1, hNW6⟩
          ?assign ?body ?done ?stop
        case assign =>
          rintro l pre x W K hI hK
          have bZ : Blk (W.alloc (.cells #[.int .i64 0, .int .i64 0, .int .i64 0] 29)) W.heap.size #[.int .i64 0, .int .i64 0, .int .i64 0] 29 := Blk.new _ _ _
          have hBa : Below W.heap.size W ((W.alloc (.cells #[.int .i64 0, .int .i64 0, .int .i64 0] 29)).setRow W.heap.size #[.int .i64 x.2.1, .int .i64 x.2.2.1, .int .i64 x.2.2.2]) := Below.setRow ((Below.refl _ _).alloc (Nat.le_refl _) _) (Nat.le_refl _) _
          simp only [Pa.val]
          gi_wp2_with (refine wpListIn_store_row ⟨some l, rfl⟩ rfl 29 _ _ rfl W.heap.size _ rfl rfl 29 _ bZ (by kernel_rfl) rfl (by simp [Value.oneCell']) ?_)
          exact hK _ _ hBa (hI.below hBa) ⟨W.heap.size, hI.bc.lt, bZ.row _, rfl⟩
        case body =>
          rintro l pre x Bx W hl hI hBx bX hlt
          obtain ⟨b1, hF1, hRA1, hB1, hN1⟩ := id hI
          simp only [List.foldl_cons, List.foldl_nil, List.setIfInBounds_toArray, List.set_cons_zero, List.set_cons_succ]
          obtain ⟨br, cr, rfl, hcr, hcm⟩ := hRA1.view.len
          obtain ⟨y, hy⟩ : ∃ y, L.getD pre.length (0, 0, 0) = y := ⟨_, rfl⟩
          have tg : decide ((L.length : Int) ≤ (pre.length : Int)) = false := by simpa using hlt
          have tg2 : decide (L.length ≤ pre.length) = false := by simpa using hlt
          have hpre := enum_prefix L pre x hlt
          rw [hy] at hpre
          obtain ⟨x0, x⟩ := x
          simp only at hpre bX ⊢
          gi_wp2
          have hKB : Below W.heap.size W W.drew := (Below.refl _ _).drew
          refine wpIn_region_det (fun W' => Below W.heap.size W W') (by kernel_rfl) (by kernel_rfl) (by kernel_rfl) (by rintro ⟨a, w, h⟩; exact h) hKB ?_
          (repeat (first | (refine det_skip (by rfl) ?_; simp only [Act.put, List.setIfInBounds_toArray, List.set_cons_zero, List.set_cons_succ]) | (refine det_pure (v := ?_) (by rfl) ?_ ?_; rotate_left; (intro wS hS; go_simp; try with_reducible rfl); simp only [Act.put, List.setIfInBounds_toArray, List.set_cons_zero, List.set_cons_succ])))
          refine det_pure (v := .int .i64 pre.length) (by rfl) (fun w1 hS => by have cy := (b1.below hS b1.lt).cell 0; go_simp; try with_reducible rfl) ?_
          simp only [Act.put, List.setIfInBounds_toArray, List.set_cons_zero, List.set_cons_succ]
          refine det_pure (v := .pointer (some ⟨rb, 0, none⟩)) (by rfl) (fun w1 hS => by have cy := (hF1.bC.below hS hF1.bC.lt).cell 0; go_simp; try with_reducible rfl) ?_
          simp only [Act.put, List.setIfInBounds_toArray, List.set_cons_zero, List.set_cons_succ]
          (repeat (first | (refine det_skip (by rfl) ?_; simp only [Act.put, List.setIfInBounds_toArray, List.set_cons_zero, List.set_cons_succ]) | (refine det_pure (v := ?_) (by rfl) ?_ ?_; rotate_left; (intro wS hS; go_simp; try with_reducible rfl); simp only [Act.put, List.setIfInBounds_toArray, List.set_cons_zero, List.set_cons_succ])))
          refine det_pure (v := .slice br L.length cr) (by rfl) (fun w1 hS => by have cy := (hRA1.box.below hS hRA1.box.lt).cell 1; go_simp; try with_reducible rfl) ?_
          simp only [Act.put, List.setIfInBounds_toArray, List.set_cons_zero, List.set_cons_succ]
          refine det_pure (v := .int .i64 L.length) (by rfl) (fun w1 hS => by go_simp; try with_reducible rfl) ?_
          simp only [Act.put, List.setIfInBounds_toArray, List.set_cons_zero, List.set_cons_succ]
          refine det_pure (v := .bool false) (by rfl) (fun w1 hS => by go_simp; try with_reducible rfl) ?_
          simp only [Act.put, List.setIfInBounds_toArray, List.set_cons_zero, List.set_cons_succ]
          (repeat (first | (refine det_skip (by rfl) ?_; simp only [Act.put, List.setIfInBounds_toArray, List.set_cons_zero, List.set_cons_succ]) | (refine det_pure (v := ?_) (by rfl) ?_ ?_; rotate_left; (intro wS hS; go_simp; try with_reducible rfl); simp only [Act.put, List.setIfInBounds_toArray, List.set_cons_zero, List.set_cons_succ])))
          refine det_pure (v := .int .i64 pre.length) (by rfl) (fun w1 hS => by have cy := (b1.below hS b1.lt).cell 0; go_simp; try with_reducible rfl) ?_
          simp only [Act.put, List.setIfInBounds_toArray, List.set_cons_zero, List.set_cons_succ]
          by_cases hx0 : x0 = (pre.length : Int)
          · subst hx0
            refine det_pure (v := .bool false) (by rfl) (fun w1 hS => by go_simp; try with_reducible rfl) ?_
            simp only [Act.put, List.setIfInBounds_toArray, List.set_cons_zero, List.set_cons_succ]
            (repeat (first | (refine det_skip (by rfl) ?_; simp only [Act.put, List.setIfInBounds_toArray, List.set_cons_zero, List.set_cons_succ]) | (refine det_pure (v := ?_) (by rfl) ?_ ?_; rotate_left; (intro wS hS; go_simp; try with_reducible rfl); simp only [Act.put, List.setIfInBounds_toArray, List.set_cons_zero, List.set_cons_succ])))
            refine det_load_row (by rfl) 29 _ rfl Bx rfl 29 _ _ (fun w1 hS => bX.below hS bX.lt) Try.underlying29 rfl (by kernel_rfl) ?_
            simp only [Act.put, List.setIfInBounds_toArray, List.set_cons_zero, List.set_cons_succ]
            refine det_call (v := Pa.val x) (by rfl) (by intro wS hS; go_simp; first | done | rfl) (fun w1 hS => (law_plain x w1).mono fun e w2 ⟨h1, h2⟩ => ⟨h1, hS.trans (h2.mono hS.size)⟩) ?_
            simp only [Act.put, List.setIfInBounds_toArray, List.set_cons_zero, List.set_cons_succ]
            refine det_pure (v := .pointer (some ⟨rb, 0, none⟩)) (by rfl) (fun w1 hS => by have cy := (hF1.bC.below hS hF1.bC.lt).cell 0; go_simp; try with_reducible rfl) ?_
            simp only [Act.put, List.setIfInBounds_toArray, List.set_cons_zero, List.set_cons_succ]
            (repeat (first | (refine det_skip (by rfl) ?_; simp only [Act.put, List.setIfInBounds_toArray, List.set_cons_zero, List.set_cons_succ]) | (refine det_pure (v := ?_) (by rfl) ?_ ?_; rotate_left; (intro wS hS; go_simp; try with_reducible rfl); simp only [Act.put, List.setIfInBounds_toArray, List.set_cons_zero, List.set_cons_succ])))
            refine det_pure (v := .slice br L.length cr) (by rfl) (fun w1 hS => by have cy := (hRA1.box.below hS hRA1.box.lt).cell 1; go_simp; try with_reducible rfl) ?_
            simp only [Act.put, List.setIfInBounds_toArray, List.set_cons_zero, List.set_cons_succ]
            refine det_pure (v := .int .i64 pre.length) (by rfl) (fun w1 hS => by have cy := (b1.below hS b1.lt).cell 0; go_simp; try with_reducible rfl) ?_
            simp only [Act.put, List.setIfInBounds_toArray, List.set_cons_zero, List.set_cons_succ]
            obtain ⟨g, off, cap, hge, _, _, hgl, hgc⟩ := hRA1.view.cells (by omega)
            obtain ⟨rfl, rfl⟩ : br = some ⟨g, off, none⟩ ∧ cr = cap := by simpa using hge
            have e0 := (hgc (pre.length * 3) (by omega)).trans (Pa.cells_get L pre.length hlt).1
            have e1 := (hgc (pre.length * 3 + 1) (by omega)).trans (Pa.cells_get L pre.length hlt).2.1
            have e2 := (hgc (pre.length * 3 + 2) (by omega)).trans (Pa.cells_get L pre.length hlt).2.2
            rw [hy] at e0 e1 e2
            clear hgc
            obtain ⟨y0, y1, y2⟩ := y
            simp only at e0 e1 e2
            have ix0 : (0 : Int) ≤ (pre.length : Int) := by omega
            have ix1 : (pre.length : Int) < (L.length : Int) := by omega
            refine det_pure (v := .pointer (some ⟨g, off + pre.length * 3, none⟩)) (by rfl) (fun w1 hS => by go_simp; try with_reducible rfl) ?_
            simp only [Act.put, List.setIfInBounds_toArray, List.set_cons_zero, List.set_cons_succ]
            refine det_pure (v := Pa.val (y0, y1, y2)) (by rfl) (fun w1 hS => by
              have d0 := (hS.cell (p := ⟨g, off + pre.length * 3, none⟩) hgl).trans e0
              have d1 := (hS.cell (p := ⟨g, off + (pre.length * 3 + 1), none⟩) hgl).trans e1
              have d2 := (hS.cell (p := ⟨g, off + (pre.length * 3 + 2), none⟩) hgl).trans e2
              clear e0 e1 e2
              simp only [Pa.val]
              simp only [← Nat.add_assoc] at d1 d2
              go_simp; try with_reducible rfl) ?_
            simp only [Act.put, List.setIfInBounds_toArray, List.set_cons_zero, List.set_cons_succ]
            refine det_pure (v := .bool (decide (x ≠ (y0, y1, y2)))) (by rfl) (fun w1 hS => run_exec_neq_ent _ (.tmp 73) (.tmp 80) rfl x (y0, y1, y2) rfl rfl) ?_
            simp only [Act.put, List.setIfInBounds_toArray, List.set_cons_zero, List.set_cons_succ]
            (repeat (first | (refine det_skip (by rfl) ?_; simp only [Act.put, List.setIfInBounds_toArray, List.set_cons_zero, List.set_cons_succ]) | (refine det_pure (v := ?_) (by rfl) ?_ ?_; rotate_left; (intro wS hS; go_simp; try with_reducible rfl); simp only [Act.put, List.setIfInBounds_toArray, List.set_cons_zero, List.set_cons_succ])))
            refine det_nil ?_
            intro W7 hb7
            have bR7 := hF1.bR.below hb7 hF1.bR.lt
            have r7 := bR7.cell 0
            have f7 := bR7.free 0
            have b17 := b1.below hb7 b1.lt
            have g7 := b17.cell 0
            have h7 := b17.free 0
            have s7 := (hF1.bS.below hb7 hF1.bS.lt).cell 0
            have hlR : N + 1 < W6.heap.size := hF.bR.lt
            have hc1 : c ≠ N := blk_ne b1 hF1.bS (by decide)
            have hc2 : c ≠ N + 1 := blk_ne b1 hF1.bR (by decide)
            have hc3 := hc1.symm
            have hc4 := hc2.symm
            by_cases hxy : x = (y0, y1, y2)
            · have hxe : decide (x = (y0, y1, y2)) = true := by simpa using hxy
              simp only [ne_eq, decide_not, hxe, Bool.not_true]
              gi_wp2
              all_goals first
                | exact ⟨((KeepsFrom.of_below hb7).trans ((KeepsOthers.setCell _ _ _).from _)).trans ((KeepsOthers.setCell _ _ _).from _), rfl, ⟨true, (bR7.other _ _ hc4).set 0 _, fun _ => rfl⟩, ((hB1.trans (hb7.mono hN1)).setCell (p := ⟨c, 0, none⟩) hNc _).setCell (p := ⟨N + 1, 0, none⟩) (by simp) _⟩
                | exact ⟨(KeepsFrom.of_below hb7).trans ((KeepsOthers.setCell _ _ _).from _), (KeepC.below hb7).trans (KeepC.set _ _ _ hc6), (hI.below hb7).next hNc _ (by simp)⟩
            · have hxe : decide (x = (y0, y1, y2)) = false := by simpa using hxy
              simp only [ne_eq, decide_not, hxe, Bool.not_false]
              gi_wp2
              refine ⟨(KeepsFrom.of_below hb7).trans ((KeepsOthers.setCell _ _ _).from _), rfl, ⟨false, bR7.set 0 _, fun h => absurd (hpre.1 h).2 (by simp [hxy])⟩, (hB1.trans (hb7.mono hN1)).setCell (p := ⟨N + 1, 0, none⟩) (by simp) _⟩
          · refine det_pure (v := .bool true) (by rfl) (fun w1 hS => by go_simp; try with_reducible rfl) ?_
            simp only [Act.put, List.setIfInBounds_toArray, List.set_cons_zero, List.set_cons_succ]
            (repeat (first | (refine det_skip (by rfl) ?_; simp only [Act.put, List.setIfInBounds_toArray, List.set_cons_zero, List.set_cons_succ]) | (refine det_pure (v := ?_) (by rfl) ?_ ?_; rotate_left; (intro wS hS; go_simp; try with_reducible rfl); simp only [Act.put, List.setIfInBounds_toArray, List.set_cons_zero, List.set_cons_succ])))
            refine det_nil ?_
            intro W7 hb7
            have bR7 := hF1.bR.below hb7 hF1.bR.lt
            have r7 := bR7.cell 0
            have f7 := bR7.free 0
            have b17 := b1.below hb7 b1.lt
            have g7 := b17.cell 0
            have h7 := b17.free 0
            have s7 := (hF1.bS.below hb7 hF1.bS.lt).cell 0
            have hlR : N + 1 < W6.heap.size := hF.bR.lt
            have hc1 : c ≠ N := blk_ne b1 hF1.bS (by decide)
            have hc2 : c ≠ N + 1 := blk_ne b1 hF1.bR (by decide)
            have hc3 := hc1.symm
            have hc4 := hc2.symm
            gi_wp2
            refine ⟨(KeepsFrom.of_below hb7).trans ((KeepsOthers.setCell _ _ _).from _), rfl, ⟨false, bR7.set 0 _, fun h => absurd (hpre.1 h).2 (by simp [hx0])⟩, (hB1.trans (hb7.mono hN1)).setCell (p := ⟨N + 1, 0, none⟩) (by simp) _⟩
        case done =>
          rintro D ys W hD rfl ⟨b1, hF1, hRA1, hB1, hN1⟩ hK
          go_wp2_with fail
          obtain ⟨br, cr, rfl, hcr, hcm⟩ := hRA1.view.len
          rw [Pa.enum_len] at b1
          refine wp_region_mono [0, 1, 2, 3, 4, 5, 6] [7] (fun W' => Below W.heap.size W W') (fun _ => none) (fun _ => []) (by kernel_rfl) (by kernel_rfl) (Below.refl _ _).drew (by intro i s hs; cases hs) ?_
          simp only [pick, List.getD_cons_succ, List.getD_cons_zero, List.zip_cons_cons, List.zip_nil_right]
          refine mono_pure (v := .int .i64 L.length) (by rfl) rfl (fun w1 hS => by have cy := (b1.below hS b1.lt).cell 0; go_simp; try with_reducible rfl) ?_
          simp only [Act.put, List.setIfInBounds_toArray, List.set_cons_zero, List.set_cons_succ]
          refine mono_pure (v := .pointer (some ⟨rb, 0, none⟩)) (by rfl) rfl (fun w1 hS => by have cy := (hF1.bC.below hS hF1.bC.lt).cell 0; go_simp; try with_reducible rfl) ?_
          simp only [Act.put, List.setIfInBounds_toArray, List.set_cons_zero, List.set_cons_succ]
          (repeat (first | (refine mono_skip (by rfl) ?_; simp only [Act.put, List.setIfInBounds_toArray, List.set_cons_zero, List.set_cons_succ]) | (refine mono_pure (v := ?_) (by rfl) rfl ?_ ?_; rotate_left; (intro wS hS; go_simp; try with_reducible rfl); simp only [Act.put, List.setIfInBounds_toArray, List.set_cons_zero, List.set_cons_succ])))
          refine mono_pure (v := .slice br L.length cr) (by rfl) rfl (fun w1 hS => by have cy := (hRA1.box.below hS hRA1.box.lt).cell 1; go_simp; try with_reducible rfl) ?_
          simp only [Act.put, List.setIfInBounds_toArray, List.set_cons_zero, List.set_cons_succ]
          (repeat (first | (refine mono_skip (by rfl) ?_; simp only [Act.put, List.setIfInBounds_toArray, List.set_cons_zero, List.set_cons_succ]) | (refine mono_pure (v := ?_) (by rfl) rfl ?_ ?_; rotate_left; (intro wS hS; go_simp; try with_reducible rfl); simp only [Act.put, List.setIfInBounds_toArray, List.set_cons_zero, List.set_cons_succ])))
          refine mono_nil ?_
          rintro W7 hb7 _
          have bR7 := hF1.bR.below hb7 hF1.bR.lt
          have r7 := bR7.cell 0
          have f7 := bR7.free 0
          have hK7 := (hb7.block D (Array.getElem?_eq_some_iff.1 hK).1).trans hK
          have hB7 := hB1.trans (hb7.mono hN1)
          go_wp2_with fail
          have bE := bR7.set 0 (.bool true)
          have hKE := (KeepsOthers.setCell W7 ⟨N + 1, 0, none⟩ (.bool true)).same D _ hK7 rfl
          exact leave_mark hKE (results_box rfl _ _ (N + 1) _ _ rfl (bE.putObj hKE rfl) (load_bool _ _ ⟨_, rfl⟩)) ⟨rfl, (hB7.setCell (p := ⟨N + 1, 0, none⟩) (by simp) _).trans (belowK_b hNW6 _ D _ _ hD hKE rfl rfl)⟩
        case stop =>
          rintro D cd pre W hD hpre ⟨rfl, ⟨v, bR, hv⟩, hB1⟩ hK
          obtain rfl := hv hpre
          go_wp2_with fail
          exact leave_mark hK (results_box rfl _ _ (N + 1) _ _ rfl (bR.putObj hK rfl) (load_bool _ _ ⟨_, rfl⟩)) ⟨rfl, hB1.trans (belowK_b hNW6 _ D _ _ hD hK rfl rfl)⟩
end pastAll
theorem pastAll.core (a0 : Int) (v1 : Value) (a1 : List Int) (a2 : Int) (w0 : (Lit.int .u8 a0).wf = true) (w2 : (Lit.int .u8 a2).wf = true) (W : World) (s1 : Ints W .i64 v1 a1) :
    Calls Try.prog 5 #[.int .u8 a0, v1, .int .u8 a2] W fun e w' => e = .returned (.bool true) ∧ Below W.heap.size W w' := by
  obtain ⟨b0, b0'⟩ := bounds_u8 w0
  obtain ⟨b2, b2'⟩ := bounds_u8 w2
  exact pastAll.walk a0 b0 b0' (a0 % 65).toNat (by omega) a2 b2 b2' v1 a1 W s1
end Go.Proofs.Ytcdfamllamjpeaa
