/- Package image's iterator over all blocks, as a contract for ranges over it. -/
import Derived.Test.YtgmhhocpdfdplaaHandsP
import Derived.Test.YtgmhhocpdfdplaaGN
namespace Go.Proofs.Ytgmhhocpdfdplaa
open Go.RowKit Go.Shelf
attribute [local go_sem] Oper.semAt_some
set_option maxRecDepth 100000
/-- Marks of ranges that are over, newest first: own blocks from lo on. -/
def Marks (lo : Nat) : Nat → List Deferred → World → Prop
  | _, [], _ => True
  | hi, d :: ds, W => ∃ D, d = { target := .collected D, args := #[] } ∧ lo ≤ D ∧ D < hi ∧ W.heap[D]? = some (.deferred (some [])) ∧ Marks lo D ds W
theorem Marks.up {lo : Nat} : ∀ {ds : List Deferred} {hi hi' : Nat} {W : World}, Marks lo hi ds W → hi ≤ hi' → Marks lo hi' ds W
  | [], _, _, _, _, _ => trivial
  | _ :: _, _, _, _, ⟨D, h1, h2, h3, h4, h5⟩, h => ⟨D, h1, h2, Nat.lt_of_lt_of_le h3 h, h4, h5⟩
theorem Marks.same {lo : Nat} {W W' : World} : ∀ {ds : List Deferred} {hi : Nat}, Marks lo hi ds W → (∀ D, lo ≤ D → D < hi → W.heap[D]? = some (.deferred (some [])) → W'.heap[D]? = some (.deferred (some []))) → Marks lo hi ds W'
  | [], _, _, _ => trivial
  | _ :: _, _, ⟨D, h1, h2, h3, h4, h5⟩, h => ⟨D, h1, h2, h3, h D h2 h3 h4, h5.same fun D' a b c => h D' a (Nat.lt_trans b h3) c⟩
theorem Marks.keep {lo hi : Nat} {ds : List Deferred} {W W' : World} (h : Marks lo hi ds W) (hk : KeepsFrom lo W W') : Marks lo hi ds W' := h.same fun D a _ c => hk.same D _ a c rfl
theorem Marks.below {lo hi : Nat} {ds : List Deferred} {W W' : World} (h : Marks lo hi ds W) (hb : Below W.heap.size W W') : Marks lo hi ds W' := h.same fun D _ _ c => (hb.block D (Array.getElem?_eq_some_iff.1 c).1).trans c
theorem Marks.own {β : Type} {lo hi B : Nat} {ds : List Deferred} (hB : hi ≤ B) : OwnFrom B (fun (_ : β) W => Marks lo hi ds W) := fun _ X Y row h hg hr => h.same fun D _ b c => (hg.block D (Array.getElem?_eq_some_iff.1 c).1 (fun e => by have := (hr D e.symm).1; omega)).trans c
theorem leave_marks {F : Fence} {n lo : Nat} {P : Program} {fn : Func} {tmps : Array Value} {R : Ending → World → Prop} {v : Value} {I : World → Prop} (hres : ∀ W, (results fn tmps).run P W = .ok v W) (hI : OwnFrom lo (fun (_ : Unit) => I)) (hR : ∀ W, I W → R (.returned v) W) :
    ∀ (ds : List Deferred) (hi : Nat) (W : World), Marks lo hi ds W → I W → LeavesInM F n P fn tmps R ds .returning W
  | [], _, W, _, h => ⟨v, hres W, hR W h⟩
  | _ :: ds, _, W, ⟨D, rfl, h2, _, h4, h5⟩, h => ⟨by simp, .inl ⟨D, _, rfl, run_takeDeferred h4,
      leave_marks hres hI hR ds D _ (h5.same fun D' _ b c => (World.putObj_heap_other (by omega)).trans c) (hI () _ _ _ h (grownBy_putObj' _ D _) (fun r e => by cases e; exact ⟨h2, _, h4, rfl⟩))⟩⟩
/-- The blocks of component c. -/
def spots (x : ImgArg) (c : Nat) : List (Nat × Nat) := (List.range (x.cs.getD c noComp).bs.length).map fun k => (c, k)
/-- The blocks of the components below c. -/
def befo (x : ImgArg) (c : Nat) : List (Nat × Nat) := (List.range c).flatMap (spots x)
theorem befo_succ (x : ImgArg) (c : Nat) : befo x (c + 1) = befo x c ++ spots x c := by
  unfold befo
  rw [List.range_succ, List.flatMap_append]
  simp
def encB (x : ImgArg) (p : Nat × Nat) : Array Value := #[.agg #[.int .i64 p.1, .int .i64 ((p.2 : Int) / ((x.cs.getD p.1 noComp).c.toNat : Int)), .int .i64 ((p.2 : Int) % ((x.cs.getD p.1 noComp).c.toNat : Int))], .agg (ints .i16 (Pl.blk (x.cs.getD p.1 noComp).bs p.2))]
/-- The block p is handed out behind those ahead of it. -/
structure AtB (x : ImgArg) (pre : List (Nat × Nat)) (p : Nat × Nat) : Prop where
  c : p.1 < x.cs.length
  k : p.2 < (x.cs.getD p.1 noComp).bs.length
  pre : pre = befo x p.1 ++ (List.range p.2).map (fun k => (p.1, k))
  r : imgE x = 0
/-- Between two components. -/
structure Lc (x : ImgArg) (L Y lp i : Nat) (w0 : World) (J : List (Nat × Nat) → World → Prop) (ds : List Deferred) (W : World) : Prop where
  il : i ≤ x.cs.length
  j : J (befo x i) W
  y : Blk W Y #[.func (.yield lp) #[] #[]] 123
  b : Below L w0 W
  m : Marks Y W.heap.size ds W
/-- Within component i: its number's box C. -/
structure Ln (x : ImgArg) (L Y C hi lp i : Nat) (w0 : World) (J : List (Nat × Nat) → World → Prop) (ds : List Deferred) (pre : List Nat) (W : World) : Prop where
  j : J (befo x i ++ pre.map (fun k => (i, k))) W
  y : Blk W Y #[.func (.yield lp) #[] #[]] 123
  c : Blk W C #[.int .i64 i] 3
  b : Below L w0 W
  m : Marks Y hi ds W
theorem Ln.own (x : ImgArg) (L Y C hi lp i : Nat) (w0 : World) (J : List (Nat × Nat) → World → Prop) (ds : List Deferred) (B : Nat) (hJ : OwnFrom Y J) (hY : Y ≤ B) (hh : hi ≤ B) (h0 : L ≤ w0.heap.size) (hL : L ≤ B) : OwnFrom B (Ln x L Y C hi lp i w0 J ds) := by
  intro s X Z row h hg hr
  have hc := CellsOf.of hg (fun r e => (hr r e).2)
  exact ⟨hJ _ _ _ _ h.j hg (fun r e => ⟨Nat.le_trans hY (hr r e).1, (hr r e).2⟩), hc.blk h.y, hc.blk h.c, ownFrom_below (β := Unit) h0 hL () X Z row h.b hg hr, Marks.own (β := Unit) hh () X Z row h.m hg hr⟩
theorem Ln.below {x : ImgArg} {L Y C hi lp i : Nat} {w0 : World} {J : List (Nat × Nat) → World → Prop} {ds : List Deferred} {pre : List Nat} {W W' : World} (h : Ln x L Y C hi lp i w0 J ds pre W) (hJ : OwnFrom Y J) (hL : L ≤ W.heap.size) (hb : Below W.heap.size W W') : Ln x L Y C hi lp i w0 J ds pre W' :=
  ⟨hJ _ _ _ none h.j ⟨hb.os, hb.tape, hb.output, hb.size, fun k hk _ => hb.block k hk⟩ (fun r e => by cases e), h.y.below hb h.y.lt, h.c.below hb h.c.lt, h.b.trans (hb.mono hL), h.m.below hb⟩
/-- The range has been left. -/
structure Lx (Y hi : Nat) (Jx : List (Nat × Nat) → World → Prop) (ds : List Deferred) (cd : Code) (pre : List Nat) (W : World) : Prop where
  cd : cd = .ret
  j : ∃ l, Jx l W
  m : Marks Y hi ds W
theorem Lx.own (Y hi : Nat) (Jx : List (Nat × Nat) → World → Prop) (ds : List Deferred) (cd : Code) (B : Nat) (hJ : OwnFrom Y Jx) (hY : Y ≤ B) (hh : hi ≤ B) : OwnFrom B (Lx Y hi Jx ds cd) := by
  intro s X Z row h hg hr
  obtain ⟨l, h1⟩ := h.j
  exact ⟨h.cd, ⟨l, hJ _ _ _ _ h1 hg (fun r e => ⟨Nat.le_trans hY (hr r e).1, (hr r e).2⟩)⟩, Marks.own (β := Unit) hh () X Z row h.m hg hr⟩
/-- What a round's loop variables are. -/
structure Lw (c : Nat) (bs : List (List Int)) (t : Array Value) (pre : List Nat) (k : Nat) (a : Act) (W : World) : Prop where
  ex : ∃ b1 b2, Blk W b1 #[.int .i64 ((k : Int) / (c : Int)), .int .i64 ((k : Int) % (c : Int)), .int .i64 1, .int .i64 1] 70 ∧ Blk W b2 (ints .i16 (Pl.blk bs k)) 57 ∧
    a = { tmps := [(21, .agg #[.int .i64 ((k : Int) / (c : Int)), .int .i64 ((k : Int) % (c : Int)), .int .i64 1, .int .i64 1]), (22, .agg (ints .i16 (Pl.blk bs k))), (5, .pointer (some ⟨b1, 0, none⟩)), (6, .pointer (some ⟨b2, 0, none⟩))].foldl (fun t (p : Nat × Value) => t.setIfInBounds p.1 p.2) t, defers := [] }
  pre : pre = List.range k
  k : k < bs.length
theorem Lw.own (c : Nat) (bs : List (List Int)) (t : Array Value) (pre : List Nat) (k : Nat) (a : Act) (B : Nat) : OwnFrom B (fun (_ : Unit) W => Lw c bs t pre k a W) := by
  intro s X Y row hs hg hr
  have hc := CellsOf.of hg (fun r e => (hr r e).2)
  obtain ⟨b1, b2, h1, h2, h3⟩ := hs.ex
  exact ⟨⟨b1, b2, hc.blk h1, hc.blk h2, h3⟩, hs.pre, hs.k⟩
theorem keepsFrom_up {B B' : Nat} {W W' : World} (h : KeepsFrom B W W') (hB : B ≤ B') : KeepsFrom B' W W' := ⟨h.size, fun k o hk h1 h2 => h.same k o (Nat.le_trans hB hk) h1 h2⟩
set_option maxHeartbeats 16000000 in
theorem image_hands (n : Nat) (x : ImgArg) (hf : FewOk x) (L M Bn : Nat) (w0 w : World) (hL : L = w0.heap.size) (hI : IsImg w0 x.val x) (hw : Below L w0 w) (hM : M ≤ Bn) (hLM : L ≤ M) (hb : Blk w Bn #[.int .i64 x.w, .int .i64 x.h, x.cu, x.qu, x.tu] 26) :
    Hands n Try.prog 76 #[.pointer (some ⟨Bn, 0, none⟩)] (encB x) (fun pre p _ => AtB x pre p) (KB2 L M) (fun xs => xs = if imgE x = 0 then befo x x.cs.length else []) (fun _ => True) w := by
  obtain ⟨T, hT⟩ : ∃ T, (if imgE x = 0 then befo x x.cs.length else []) = T := ⟨_, rfl⟩
  rw [hT]
  intro lp J Jx W hW hJ hJx hY h0
  have hb' := hb.below hW hb.lt
  have hwW : Below L w0 W := hw.trans (hW.mono (by have := hb.lt; omega))
  have HI := Lib.hid hI
  have hBn := hb'.lt
  have HL := Lib.hid hL
  clear hL
  refine callsIn_of_wp_marks Try.func76 rfl trivial ?_ rfl
  simp only [Try.ntmps76, List.size_toArray, List.length_cons, List.length_nil, Nat.reduceAdd, Nat.reduceSub, Array.replicate_succ, Array.replicate_zero, List.push_toArray, List.append_toArray, List.nil_append, List.cons_append]
  refine wpIn_wide.2 ?_
  obtain ⟨Y, hYb⟩ : ∃ Y, Y = W.heap.size := ⟨_, rfl⟩
  rw [← hYb] at hJ hJx hBn hY
  have HY := Lib.hid hY
  clear hY
  have HYb := Lib.hid hYb
  go_upto_region 1 with fail
  have hbe : Below W.heap.size W (W.alloc (.cells #[.func (.yield lp) #[] #[]] 123)) := (Below.refl _ _).alloc (Nat.le_refl _) _
  have hLW : L ≤ W.heap.size := by rw [← hYb]; omega
  refine wp_world (fun U => J [] U ∧ Blk U Y #[.func (.yield lp) #[] #[]] 123 ∧ Blk U Bn #[.int .i64 x.w, .int .i64 x.h, x.cu, x.qu, x.tu] 26 ∧ Below L w0 U ∧ Y < U.heap.size) ⟨hJ.alloc _ h0, Blk.new' _ _ _ hYb, hb'.alloc _, hwW.trans (hbe.mono hLW), by rw [hYb]; simp⟩ ?_
  rw [← hYb]
  clear h0 hYb hb' hwW hbe hLW
  rintro W1 ⟨hJ1, hy1, hb1, hw1, hs1⟩
  have hI1 : IsImg W1 x.val x := HI.out.below (by rw [← HL.out]; exact hw1)
  have hR := img_right x W1 hI1 hf
  obtain ⟨E, hE⟩ : ∃ E, imgE x = E := ⟨_, rfl⟩
  rw [hE] at hR hT
  unfold ImgArg.val at hR
  by_cases h0 : E = 0
  · rw [if_pos h0] at hT
    subst h0
    have hri := right_of_imgE hE
    obtain ⟨cb, ccap, hcu⟩ : ∃ b c, x.cu = .slice b x.cs.length c := hI1.cs.len
    rw [hcu] at hb1 hR
    have q2 := hb1.cell 2
    go_wp2_with (first
      | (refine wpList_load_row rfl 26 _ rfl Bn rfl 26 _ _ _ hb1 Try.underlying26 rfl (by kernel_rfl) ?_)
      | (go_at_call 20; refine hR.mono ?_; rintro e w2 ⟨rfl, hb2⟩; have q22 := (hb1.below hb2 hb1.lt).cell 2))
    have HCU := Lib.hid hcu
    have hlc := hf.c20
    have hJ2 : J [] w2 := hJ _ _ _ none hJ1 ⟨hb2.os, hb2.tape, hb2.output, hb2.size, fun k hk _ => hb2.block k hk⟩ (fun r e => by cases e)
    have hy2 := hy1.below hb2 hy1.lt
    have hw2 := hw1.trans (hb2.mono (by have := hb1.lt; omega))
    clear hcu hJ1 hy1 hw1 hb1 hs1 hI1 q2 q22 hR hb2
    refine wp_loop (fun a wr => ∃ (i : Nat) (ds : List Deferred) (s3 s4 s14 s15 s16 s17 s18 s19 s20 s33 : Value), a = { tmps := #[.func (.yield lp) #[] #[], .pointer (some ⟨Bn, 0, none⟩), .pointer (some ⟨Y, 0, none⟩), s3, s4, undef, undef, .agg #[.int .i64 x.w, .int .i64 x.h, .slice cb x.cs.length ccap, x.qu, x.tu], .int .i64 0, .bool false, .pointer (some ⟨Bn, 2, none⟩), .slice cb x.cs.length ccap, .int .i64 x.cs.length, .int .i64 i, s14, s15, s16, s17, s18, s19, s20, undef, undef, undef, undef, undef, undef, undef, undef, undef, undef, undef, undef, s33], defers := ds } ∧ Lc x L Y lp i w0 J ds wr) (fun a _ => x.cs.length - (intOf (a.tmps.getD 13 undef)).toNat) ?start ?round
    case start => exact ⟨0, [], undef, undef, undef, undef, undef, undef, undef, undef, undef, undef, rfl, ⟨Nat.zero_le _, hJ2, hy2, hw2, trivial⟩⟩
    case round =>
      clear hJ2 hy2 hw2
      rintro a wr ⟨i, ds, s3, s4, s14, s15, s16, s17, s18, s19, s20, s33, rfl, hlc⟩
      have hi := hlc.il
      by_cases hlt : i < x.cs.length
      · have tl : decide (i < x.cs.length) = true := by simpa using hlt
        have hIw : IsImg wr x.val x := HI.out.below (by rw [← HL.out]; exact hlc.b)
        have hcs := hIw.cs
        rw [HCU.out] at hcs
        obtain ⟨a, rfl, c0, c1, c2, c3, c4, c5, c6⟩ := hcs.at hlt
        have j0 : (0 : Int) ≤ (i : Int) := by omega
        have j1 : (i : Int) < (x.cs.length : Int) := by omega
        have hok := hIw.cs.ok _ (List.getElem_mem hlt)
        obtain ⟨ub, ucap, hu, hucap, hucm⟩ := hok.ar.len
        have hget : x.cs[i]'hlt = x.cs.getD i noComp := by simp [List.getD_eq_getElem?_getD, hlt]
        have hpr := (hri.plane hlt).1
        have h64 := hok.h64
        have hA := hok.ar
        obtain ⟨K, hK⟩ : ∃ K, K = x.cs[i]'hlt := ⟨_, rfl⟩
        rw [← hK] at c0 c1 c2 c3 c4 c5 c6 hu hok hget hpr h64 hA hucap
        rw [hu] at c6 hA
        have HGET := Lib.hid hget
        clear hK hget hok hu hIw hcs
        obtain ⟨x0, x1, x2, x3, kc, kr, ku, bs⟩ := K
        simp only at c0 c1 c2 c3 c4 c5 c6 hpr h64 hA hucap
        obtain ⟨hc1, hr1, hn1⟩ : 1 ≤ kc ∧ 1 ≤ kr ∧ bs.length ≤ 16384 := by
          have hr := hpr
          unfold Pl.right at hr
          simp only [Bool.and_eq_true, beq_iff_eq] at hr
          have := Pl.sized_ok hr.1
          omega
        obtain ⟨c, rfl⟩ : ∃ k : Nat, kc = k := ⟨kc.toNat, by omega⟩
        obtain ⟨r, rfl⟩ : ∃ k : Nat, kr = k := ⟨kr.toNat, by omega⟩
        obtain ⟨C, hC⟩ : ∃ C, C = wr.heap.size := ⟨_, rfl⟩
        have hYw : Y < wr.heap.size := hlc.y.lt
        have hLw : L ≤ wr.heap.size := by omega
        have hbe : Below wr.heap.size wr ((wr.alloc (.cells #[.int .i64 i] 3)).alloc (.cells #[.int .i64 x0, .int .i64 x1, .int .i64 x2, .int .i64 x3, .int .i64 c, .int .i64 r, .slice ub bs.length ucap] 63)) := ((Below.refl _ _).alloc (Nat.le_refl _) _).alloc (by simp) _
        go_upto_region 5 with fail
        refine wp_world (fun U => Ln x L Y C C lp i w0 J ds [] U ∧ Blk U (C + 1) #[.int .i64 x0, .int .i64 x1, .int .i64 x2, .int .i64 x3, .int .i64 c, .int .i64 r, .slice ub bs.length ucap] 63 ∧ Below wr.heap.size wr U) ⟨⟨by simpa using hJ _ _ _ none hlc.j ⟨hbe.os, hbe.tape, hbe.output, hbe.size, fun k hk _ => hbe.block k hk⟩ (fun r e => by cases e), hlc.y.below hbe hlc.y.lt, (Blk.new' _ _ _ hC).alloc _, hlc.b.trans (hbe.mono hLw), by rw [hC]; exact hlc.m.below hbe⟩, Blk.new' _ _ _ (by rw [hC]; simp), hbe⟩ ?_
        rw [← hC]
        have hYC : Y < C := by omega
        have HC := Lib.hid hC
        clear hbe c0 c1 c2 c3 c4 c5 c6 hlc hC
        rintro W3 ⟨hln, hk3, hb3⟩
        have k4 := hk3.cell 4; have k5 := hk3.cell 5; have k6 := hk3.cell 6
        have hcw : C + 1 < W3.heap.size := hk3.lt
        have hA3 := hA.below (w' := W3) (by rw [← HC.out]; exact hb3)
        go_wp2_with (go_at_call 77; refine (plane_all _ _ _ _).mono ?_; rintro e w4 ⟨rfl, rfl⟩)
        obtain ⟨B, hB⟩ : ∃ B, B = W3.heap.size := ⟨_, rfl⟩
        rw [← hB]
        have hb4 : Below W3.heap.size W3 (W3.alloc (.cells #[.int .i64 c, .int .i64 r, .slice ub bs.length ucap] 61)) := (Below.refl _ _).alloc (Nat.le_refl _) _
        refine wp_world (fun U => Ln x L Y C C lp i w0 J ds [] U ∧ Blk U B #[.int .i64 c, .int .i64 r, .slice ub bs.length ucap] 61 ∧ Ar U 64 (.slice ub bs.length ucap) bs.length (bcells bs)) ⟨hln.below hJ (by omega) hb4, Blk.new' _ _ _ hB, hA3.below hb4⟩ ?_
        have hCB : C + 1 < B := by omega
        clear hb4 hb3 hk3 hln hA3 hA k4 k5 k6 hcw hB hYw hLw
        rintro W4 ⟨hln, bB, hA4⟩
        have hBW := bB.lt
        have hseq := fun n => plane_hands L M n c r (.slice ub bs.length ucap) bs h64 hpr B W4 (by omega) bB hA4
        have h0L : L ≤ w0.heap.size := by rw [HL.out]; exact Nat.le_refl _
        refine wp_rangeFunc_w (n := 9) (Kp := KB2 L M) (fun h k => h.trans k) (fun W l o o' hl ho hc => ⟨KeepC.put _ _ _ _ ho hc, ⟨rfl, rfl, rfl, by simp, fun k hk => World.putObj_heap_other (by omega)⟩⟩) (fun U U' hs hb => ⟨KeepC.below hb, hb.mono (by omega)⟩)
          (by omega) (gf := 128) (lb := #[.pointer (some ⟨B, 0, none⟩)]) rfl (enters_of Try.func128 (by kernel_rfl) rfl) (hseq _) (fun _ => rfl)
          (Ln x L Y C C lp i w0 J ds) (Lx Y C Jx ds) (Ln.own _ _ _ _ _ _ _ _ _ _ _ hJ (by omega) (by omega) h0L (by omega)) (fun cd => Lx.own _ _ _ _ cd _ hJx (by omega) (by omega)) hln
          (Lw c bs) (fun t pre k a' => Lw.own c bs t pre k a' _) ?assign ?body ?done ?stop
        case assign =>
          rintro l pre k W K hln hV hK
          have hx64 := Pl.blk_len h64 k
          have hBk : (Pl.blk bs k) = Pl.blk bs k := rfl
          obtain ⟨y, hy⟩ : ∃ y, Pl.blk bs k = y := ⟨_, rfl⟩
          rw [hy] at hx64
          have HY2 := Lib.hid hy
          simp only [Pl.encs, hy]
          have bZ1 : Blk (W.alloc (.cells #[.int .i64 0, .int .i64 0, .int .i64 0, .int .i64 0] 70)) W.heap.size #[.int .i64 0, .int .i64 0, .int .i64 0, .int .i64 0] 70 := Blk.new _ _ _
          clear hBk hy
          gi_wp2_with (first
            | (refine wpListIn_store_row ⟨some l, rfl⟩ rfl 70 _ _ rfl W.heap.size _ rfl rfl 70 _ bZ1 (by kernel_rfl) rfl (by simp [Value.oneCell']) ?_)
            | (refine wpListIn_store_row ⟨some l, rfl⟩ rfl 57 _ _ rfl (W.heap.size + 1) (ints .i16 y) rfl rfl 57 _ (Blk.new' _ (ints .i16 (List.replicate 64 0)) _ (by simp)) (by rw [ints_size, hx64]; kernel_rfl) (by rw [ints_size, ints_size, hx64]; rfl) (ints_one _ _) ?_))
          have hB1 : Below W.heap.size W ((W.alloc (.cells #[.int .i64 0, .int .i64 0, .int .i64 0, .int .i64 0] 70)).setRow W.heap.size #[.int .i64 ((k : Int) / (c : Int)), .int .i64 ((k : Int) % (c : Int)), .int .i64 1, .int .i64 1]) := Below.setRow ((Below.refl _ _).alloc (Nat.le_refl _) _) (Nat.le_refl _) _
          have hB2 := Below.setRow (hB1.alloc (by simp) (.cells (ints .i16 (List.replicate 64 0)) 57)) (g := W.heap.size + 1) (by omega) (ints .i16 y)
          refine hK _ _ hB2 (hln.below hJ (by have := hln.c.lt; omega) hB2) ⟨⟨W.heap.size, W.heap.size + 1, ?_, ?_, by rw [HY2.out]; rfl⟩, hV.1, hV.2⟩
          · exact ((bZ1.row _).alloc _).rowOther _ _ (by omega)
          · rw [HY2.out]; exact (Blk.new' _ (ints .i16 (List.replicate 64 0)) _ (by simp)).row _
        case body =>
          rintro l pre k a' W hl hsz hln ⟨⟨b1, b2, h1, h2, rfl⟩, rfl, hkb⟩
          simp only [List.foldl_cons, List.foldl_nil, List.setIfInBounds_toArray, List.set_cons_zero, List.set_cons_succ]
          have hx64 := Pl.blk_len h64 k
          have henc : encB x (i, k) = #[.agg #[.int .i64 i, .int .i64 ((k : Int) / (c : Int)), .int .i64 ((k : Int) % (c : Int))], .agg (ints .i16 (Pl.blk bs k))] := by
            unfold encB
            rw [← HGET.out]
            rfl
          have hat : AtB x (befo x i ++ (List.range k).map (fun k => (i, k))) (i, k) := ⟨hlt, by show k < (x.cs.getD i noComp).bs.length; rw [← HGET.out]; exact hkb, rfl, hE⟩
          obtain ⟨fn, tmps, assign, body, hy, hRd⟩ := HY.out _ (i, k) W hln.j hat
          rw [henc] at hy
          clear henc hat
          obtain ⟨y, hy2⟩ : ∃ y, Pl.blk bs k = y := ⟨_, rfl⟩
          rw [hy2] at hx64 hy h2 ⊢
          clear hy2
          have y0 := hln.y.cell 0
          have n0 := hln.c.cell 0
          have r0 := h1.cell 0; have r1 := h1.cell 1
          gi_wp2_with (refine wpListIn_load_row ⟨some l, rfl⟩ rfl 57 _ rfl b2 rfl 57 _ _ _ h2 Try.underlying57 rfl (by rw [ints_size, hx64]; kernel_rfl) ?_)
          refine (roundIn_any hRd).mono ?_
          rintro e W5 (⟨rfl, hJ5, hk5, hkf⟩ | ⟨rfl, hJx5, hkf⟩)
          · clear y0 n0 r0 r1 h1 h2 hRd hy
            gi_wp2
            exact ⟨keepsFrom_up hkf (by omega), hk5, ⟨by rw [List.map_append, ← List.append_assoc]; exact hJ5, hk5.c.blk hln.y (by omega), hk5.c.blk hln.c (by omega), hln.b.trans hk5.b, hln.m.keep hkf⟩⟩
          · clear y0 n0 r0 r1 h1 h2 hRd hy
            gi_wp2
            exact ⟨keepsFrom_up hkf (by omega), rfl, ⟨_, hJx5⟩, hln.m.keep hkf⟩
        case done => 
          rintro D ys W hD rfl hI2 hK
          have hJn := hI2.j
          have hbs : befo x i ++ (List.range bs.length).map (fun k => (i, k)) = befo x (i + 1) := by
            rw [befo_succ]
            unfold spots
            rw [← HGET.out]
          rw [hbs] at hJn
          have hmk : Marks Y W.heap.size ({ target := .collected D, args := #[] } :: ds) W := ⟨D, rfl, by omega, (Array.getElem?_eq_some_iff.1 hK).1, hK, hI2.m.up (by omega)⟩
          have hdo : Lc x L Y lp (i + 1) w0 J ({ target := .collected D, args := #[] } :: ds) W := ⟨by omega, hJn, hI2.y, hI2.b, hmk⟩
          clear hJn hbs hmk hI2
          go_wp2_with fail
          refine ⟨⟨i + 1, _, _, _, _, _, _, _, _, _, _, _, rfl, hdo⟩, ?_⟩
          show x.cs.length - ((i : Int) + 1).toNat < x.cs.length - (i : Int).toNat
          omega
        case stop => 
          rintro D cd pre W hD _ ⟨rfl, hjl, hm⟩ hK
          go_wp2_with fail
          refine leave_marks (lo := Y) (I := fun W => ∃ l, Jx l W) (fun W => results_none rfl _ _ W) (fun _ X Z row h hg hr => by obtain ⟨l, h⟩ := h; exact ⟨l, hJx _ _ _ _ h hg hr⟩) (fun W h => ⟨⟨_, rfl⟩, .inr (by obtain ⟨l, h⟩ := h; exact ⟨l, trivial, h⟩)⟩) _ (D + 1) W ⟨D, rfl, by omega, by omega, hK, hm.up (by omega)⟩ hjl
      · have tl : decide (i < x.cs.length) = false := by simpa using hlt
        obtain rfl : i = x.cs.length := by omega
        go_wp2_with fail
        refine leave_marks (lo := Y) (I := J T) (fun W => results_none rfl _ _ W) (fun _ => hJ T) (fun W h => ⟨⟨_, rfl⟩, .inl ⟨_, rfl, h⟩⟩) ds _ _ hlc.m (by rw [← hT]; exact hlc.j)
  · rw [if_neg h0] at hT
    subst hT
    have t0 : (E != 0) = true := by simpa using h0
    go_wp2_with (first
      | (refine wpList_load_row rfl 26 _ rfl Bn rfl 26 _ _ _ hb1 Try.underlying26 rfl (by kernel_rfl) ?_)
      | (go_at_call 20; refine hR.mono ?_; rintro e w2 ⟨rfl, hb2⟩))
    refine leave_plain (results_none rfl _ _ _) ?_
    exact ⟨⟨_, rfl⟩, .inl ⟨_, rfl, hJ _ _ _ none hJ1 ⟨hb2.os, hb2.tape, hb2.output, hb2.size, fun k hk _ => hb2.block k hk⟩ (fun r e => by cases e)⟩⟩
end Go.Proofs.Ytgmhhocpdfdplaa
