/- Texts on one foundation, joined: ImgFr, PlanesE, All, RightE, R11a, R11b, R11c, SizeE. -/
import Derived.Test.YtgmhhocpdfdplaaGE
import Derived.Test.YtgmhhocpdfdplaaGB
import Derived.Test.YtgmhhocpdfdplaaGC
import Derived.Test.YtgmhhocpdfdplaaGD
/- Package image: Frame. -/
namespace Go.Proofs.Ytgmhhocpdfdplaa
open Go.RowKit
set_option maxRecDepth 100000
set_option maxHeartbeats 8000000
def psOf (cs : List CompArg) : List (Int × Int) := cs.map fun c => (c.h, c.v)
def frE (x : ImgArg) : Int := newE x.w x.h (psOf x.cs)
def frG (x : ImgArg) : List GridV := gridsN x.w x.h (partsOf (psOf x.cs))
def PsRow (w : World) (N : Nat) (u : Value) (cs : List CompArg) (k : Nat) : Prop := Row w N 154 2 u k ((psOf (cs.take k)).map partC).flatten
theorem PsRow.step {w : World} {N : Nat} {u : Value} {cs : List CompArg} {k : Nat} (hk : k < cs.length) {a b : Int} (ha : (cs[k]'hk).h = a) (hb : (cs[k]'hk).v = b)
    (h : Row w N 154 2 u (k + 1) (((psOf (cs.take k)).map partC).flatten ++ [.int .i64 a, .int .i64 b])) : PsRow w N u cs (k + 1) := by
  unfold PsRow
  have e : ((psOf (cs.take (k + 1))).map partC).flatten = ((psOf (cs.take k)).map partC).flatten ++ [.int .i64 a, .int .i64 b] := by
    unfold psOf
    rw [List.take_succ_eq_append_getElem hk, List.map_append, List.map_append, List.flatten_append]
    simp only [List.map_cons, List.map_nil, List.flatten_cons, List.flatten_nil, partC, ha, hb, List.append_nil]
  rw [e]
  exact h
/-- The image in block N, its parts so far. -/
structure FrI (N : Nat) (x : ImgArg) (u : Value) (k : Nat) (w W : World) : Prop where
  bN : Blk W N #[.int .i64 x.w, .int .i64 x.h, x.cu, x.qu, x.tu] 26
  row : PsRow W N u x.cs k
  hB : Below N w W
theorem FrI.below {N : Nat} {x : ImgArg} {u : Value} {k : Nat} {w W W' : World} (h : FrI N x u k w W) (hb : Below W.heap.size W W') : FrI N x u k w W' :=
  ⟨h.bN.below hb h.bN.lt, Row.grow h.row hb, h.hB.trans (hb.mono (Nat.le_of_lt h.bN.lt))⟩
theorem img_frame (x : ImgArg) (w : World) (h : IsImg w x.val x) (hf : x.cs.length ≤ 20) :
    Calls Try.prog 48 #[x.val] w fun r w' => ∃ f, r = .returned (.tuple #[f, .int .i64 (frE x)]) ∧ Below w.heap.size w w' ∧ (frE x ≠ 0 → f = .pointer none) ∧ (frE x = 0 → ∃ F, f = .pointer (some ⟨F, 0, none⟩) ∧ IsFr w' F (frG x) ∧ FrU w' F (8 * hhN (partsOf (psOf x.cs))) (8 * vvN (partsOf (psOf x.cs))) (acN x.w (partsOf (psOf x.cs))) (dnN x.h (partsOf (psOf x.cs)))) := by
  obtain ⟨cb, ccap, hcu⟩ : ∃ b cap, x.cu = .slice b x.cs.length cap := h.cs.len
  have HCU := Lib.hid hcu
  unfold ImgArg.val at *
  have hnew := fun pb cap W hp => fr_new x.w x.h pb cap (psOf x.cs) (by simp [psOf]; omega) W hp
  have hlp : (psOf x.cs).length = x.cs.length := by simp [psOf]
  rw [hlp] at hnew
  unfold frE frG
  generalize newE x.w x.h (psOf x.cs) = E at *
  obtain ⟨GS, hGS⟩ : ∃ gs, gridsN x.w x.h (partsOf (psOf x.cs)) = gs := ⟨_, rfl⟩
  rw [hGS] at hnew ⊢
  clear hGS
  obtain ⟨N, hN⟩ : ∃ N, N = w.heap.size := ⟨_, rfl⟩
  have HN := Lib.hid hN
  rw [← hN]
  have HLP := Lib.hid hlp
  have HNEW := Lib.hid hnew
  have hbe : Below w.heap.size w (w.alloc (.cells #[.int .i64 x.w, .int .i64 x.h, x.cu, x.qu, x.tu] 26)) := (Below.refl _ _).alloc (Nat.le_refl _) _
  clear hN hlp hnew hcu
  go_enter Try.func48, Try.ntmps48
  go_upto_region 2 with fail
  rw [← HN.out]
  refine wp_world (fun W => FrI N x (.slice none 0 0) 0 w W) ⟨Blk.new' _ _ _ HN.out, Row.nil _ _ _ _, by rw [HN.out]; exact hbe⟩ ?_
  clear hbe
  intro W0 hI
  have q2 : W0.cell? ⟨N, 2, none⟩ = some (.slice cb x.cs.length ccap) := by rw [← HCU.out]; exact hI.bN.cell 2
  go_wp2
  clear q2
  go_loopw [10, 4] (fun iv uv wr => ∃ k : Nat, k ≤ x.cs.length ∧ iv = .int .i64 k ∧ FrI N x uv k w wr) (fun iv _ _ => x.cs.length - (intOf iv).toNat)
  case atStart => exact ⟨0, Nat.zero_le _, rfl, hI⟩
  case round =>
    clear hI
    obtain ⟨k, hk, rfl, hI⟩ := hrel
    obtain ⟨bu, cu, rfl⟩ := Row.len hI.row
    by_cases hlt : k < x.cs.length
    · have tl : decide (k < x.cs.length) = true := by simpa using hlt
      have hcs : IsComps w (.slice cb x.cs.length ccap) x.cs := by rw [← HCU.out]; exact h.cs
      obtain ⟨a, rfl, c0, c1, c2, c3, c4, c5, c6⟩ := (hcs.below (by rw [← HN.out]; exact hI.hB)).at hlt
      have j0 : (0 : Int) ≤ (k : Int) := by omega
      have j1 : (k : Int) < (x.cs.length : Int) := by omega
      obtain ⟨ha, eha⟩ : ∃ a, (x.cs[k]'hlt).h = a := ⟨_, rfl⟩
      obtain ⟨va, eva⟩ : ∃ a, (x.cs[k]'hlt).v = a := ⟨_, rfl⟩
      rw [eha] at c1
      rw [eva] at c2
      have hu : ∃ ub un ucap, (x.cs[k]'hlt).u = .slice ub un ucap := by
        obtain ⟨ub, ucap, hu, _⟩ := (hcs.ok _ (List.getElem_mem hlt)).ar.len
        exact ⟨ub, _, ucap, hu⟩
      obtain ⟨ub, un, ucap, hu⟩ := hu
      rw [hu] at c6
      have HA := Lib.hid eha; have VA := Lib.hid eva
      clear hcs eha eva hu
      generalize (x.cs[k]'hlt).id = x0 at *
      generalize (x.cs[k]'hlt).q = x3 at *
      generalize (x.cs[k]'hlt).c = x4 at *
      generalize (x.cs[k]'hlt).r = x5 at *
      obtain ⟨M, hM⟩ : ∃ M, M = wr.heap.size := ⟨_, rfl⟩
      go_upto_region 5 with fail
      refine wp_world (fun W => Blk W M #[.int .i64 x0, .int .i64 ha, .int .i64 va, .int .i64 x3, .int .i64 x4, .int .i64 x5, .slice ub un ucap] 63 ∧ FrI N x (.slice bu k cu) k w W) ⟨Blk.new' _ _ _ hM, hI.below ((Below.refl _ _).alloc (Nat.le_refl _) _)⟩ ?_
      rw [← hM]
      clear hM hI c0 c1 c2 c3 c4 c5 c6
      rintro W ⟨bM, hI⟩
      have q1 := bM.cell 1
      have q2 := bM.cell 2
      have hNl := hI.bN.lt
      go_wp2_with (refine wpList_append_Row _ rfl _ _ 153 rfl N 154 _ _ 2 16 rfl rfl rfl rfl rfl rfl _ _ _ rfl (Row.grow hI.row ((Below.refl _ _).alloc (Nat.le_refl _) _)) _ 1 1 [.int .i64 ha, .int .i64 va] rfl (by omega) rfl ((Blk.new _ _ _).cells) (by intro u hu; simp at hu; rcases hu with rfl | rfl <;> rfl) (by simp only [maxLen]; omega) (by omega) (by simp; omega) (fun v' w2 hR1 hg hat => ?_))
      obtain ⟨b2, c2, rfl⟩ := hR1.len
      go_roundw
      case rel =>
        refine ⟨k + 1, by omega, by go_num, ⟨?_, PsRow.step hlt HA.out VA.out hR1, ?_⟩⟩
        · exact (hI.bN.alloc _).grown hg (fun e => hI.row.typed hI.bN (by decide) N e.symm rfl)
        · exact Below.grown (hI.hB.alloc (by omega) _) (by simp; omega) hg (fun g e => (hI.row.lt g e).1)
      case measure => simp [intOf]; omega
    · obtain rfl : k = x.cs.length := by omega
      have tl : decide (x.cs.length < x.cs.length) = false := by simp
      have hp : IsParts wr (.slice bu x.cs.length cu) (psOf x.cs) := by
        have hr := hI.row
        unfold PsRow at hr
        rw [List.take_length] at hr
        exact Ar.elems hr.ar (fun c hc => by obtain ⟨p, _, rfl⟩ := List.mem_map.1 hc; rfl) (by simp [psOf]) (by simp only [maxLen]; omega)
      have hn := HNEW.out _ _ _ hp
      have q0 := hI.bN.cell 0
      have q1 := hI.bN.cell 1
      clear hp
      go_wp2_with (go_at_call 101; refine hn.mono ?_; rintro r w1 ⟨f, rfl, hb1, hf1, hf2⟩)
      go_ret2
      exact ⟨f, rfl, hI.hB.trans (hb1.mono (Nat.le_of_lt hI.bN.lt)), hf1, hf2⟩
end Go.Proofs.Ytgmhhocpdfdplaa
/- Package image: planes, where there is a frame. -/
namespace Go.Proofs.Ytgmhhocpdfdplaa
open Go.RowKit
set_option maxRecDepth 100000
set_option maxHeartbeats 4000000
/-- Is a component's plane not as its grid says? -/
def planeE (g : GridV) (x : CompArg) : Int := if (Pl.right x.c x.r x.bs.length = true ∧ x.c = g.c) ∧ x.r = g.r then 0 else 4
theorem img_planes1 (P F : Nat) (gs : List GridV) (i : Nat) (hi : i < gs.length) (c : CompArg) (hu : ∃ ub uc, c.u = .slice ub c.bs.length uc) (w : World) (bP : Blk w P #[.pointer (some ⟨F, 0, none⟩)] 87) (h : IsFr w F gs) :
    Calls Try.prog 117 #[.int .i64 i, .agg #[.int .i64 c.id, .int .i64 c.h, .int .i64 c.v, .int .i64 c.q, .int .i64 c.c, .int .i64 c.r, c.u], .pointer (some ⟨P, 0, none⟩)] w fun r w' => r = .returned (.int .i64 (planeE (gs[i]'hi) c)) ∧ Below w.heap.size w w' := by
  obtain ⟨K, hK⟩ : ∃ K, K = w.heap.size := ⟨_, rfl⟩
  have HK := Lib.hid hK
  rw [← hK]
  have hg := fun W h => fr_grid F gs i hi W h
  obtain ⟨ub, uc, hu⟩ := hu
  rw [hu]
  unfold planeE
  have hpr := fun W => plane_right c.c c.r c.bs.length ub uc W
  have hte := fun (b : Bool) W => img_test b 4 W
  generalize c.id = x0 at *
  generalize c.h = x1 at *
  generalize c.v = x2 at *
  generalize c.q = x3 at *
  generalize c.c = x4 at *
  generalize c.r = x5 at *
  generalize c.bs.length = un at *
  generalize Pl.right x4 x5 un = b at *
  generalize (gs[i]'hi) = g at *
  obtain ⟨g0, g1, g2, g3⟩ := g
  simp only at hg ⊢
  have hbe : Below w.heap.size w (w.alloc (.cells #[.int .i64 x0, .int .i64 x1, .int .i64 x2, .int .i64 x3, .int .i64 x4, .int .i64 x5, .slice ub un uc] 63)) := (Below.refl _ _).alloc (Nat.le_refl _) _
  obtain ⟨R, hR⟩ : ∃ R, (if (b = true ∧ x4 = g0) ∧ x5 = g1 then (0 : Int) else 4) = R := ⟨_, rfl⟩
  rw [hR]
  have HR := Lib.hid hR
  clear hK hu hR
  go_enter Try.func117, Try.ntmps117
  go_upto_region 1 with fail
  rw [← HK.out]
  refine wp_world (fun W => Blk W K #[.int .i64 x0, .int .i64 x1, .int .i64 x2, .int .i64 x3, .int .i64 x4, .int .i64 x5, .slice ub un uc] 63 ∧ Blk W P #[.pointer (some ⟨F, 0, none⟩)] 87 ∧ IsFr W F gs ∧ Below K w W) ⟨Blk.new' _ _ _ HK.out, bP.below hbe bP.lt, h.below hbe, by rw [HK.out]; exact hbe⟩ ?_
  clear hbe bP h
  rintro W ⟨bK, bP, hI, hB⟩
  have p0 : W.cell? ⟨P, 0, none⟩ = some (.pointer (some ⟨F, 0, none⟩)) := bP.cell 0
  go_upto_region 2 with (first | (go_at_call 73; refine (hg _ hI).mono ?_; rintro e w1 ⟨rfl, hb1⟩; obtain ⟨M, hM⟩ : ∃ M, M = w1.heap.size := ⟨_, rfl⟩; have HM := Lib.hid hM; clear hM) | (refine wpList_store_row rfl 116 _ _ rfl M _ (by rw [HM.out]; rfl) rfl 116 _ (Blk.new' _ _ _ HM.out) (by kernel_rfl) rfl (by simp [Value.oneCell']) ?_))
  rw [← HM.out]
  have hKl := bK.lt
  have hKM : K < M := by rw [HM.out]; exact Nat.lt_of_lt_of_le hKl hb1.size
  have hC := hB.trans (hb1.mono (Nat.le_of_lt hKl))
  refine wp_world (fun W => Blk W K #[.int .i64 x0, .int .i64 x1, .int .i64 x2, .int .i64 x3, .int .i64 x4, .int .i64 x5, .slice ub un uc] 63 ∧ Blk W M #[.int .i64 g0, .int .i64 g1, .int .i64 g2, .int .i64 g3] 116 ∧ Below K w W) ⟨((bK.below hb1 hKl).alloc _).rowOther _ _ (by omega), (Blk.new' _ _ _ HM.out).row _, Below.setRow (hC.alloc (by rw [← HM.out]; omega) _) (by omega) _⟩ ?_
  clear hC hb1 hB bK bP hI p0
  rintro W2 ⟨bK, bM, hB⟩
  have k4 := bK.cell 4
  have k5 := bK.cell 5
  have k6 := bK.cell 6
  have m0 := bM.cell 0
  have m1 := bM.cell 1
  have hp := hpr W2
  cases b
  · obtain rfl : R = 4 := by rw [← HR.out]; exact if_neg (fun h => by cases h.1.1)
    have h2 := hte false
    rw [if_neg (by decide)] at h2
    clear hte hpr
    go_wp2_with (first | (go_at_call 118; refine hp.mono ?_; rintro r w2 ⟨rfl, hb2⟩; replace hB := hB.trans (hb2.mono (Nat.le_of_lt bK.lt))) | (go_at_call 110; refine (h2 _).mono ?_; rintro r w3 ⟨rfl, rfl⟩))
    go_ret
    exact ⟨rfl, hB⟩
  · by_cases hc : x4 = g0
    · by_cases hr : x5 = g1
      · have t1 : (x4 == g0) = true := by simpa using hc
        have t2 : (x5 == g1) = true := by simpa using hr
        have t3 : decide (x4 = g0) = true := by simpa using hc
        have t4 : decide (x5 = g1) = true := by simpa using hr
        obtain rfl : R = 0 := by rw [← HR.out]; exact if_pos ⟨⟨rfl, hc⟩, hr⟩
        have h2 := hte true
        rw [if_pos rfl] at h2
        clear hte hpr hc hr
        go_wp2_with (first | (go_at_call 118; refine hp.mono ?_; rintro r w2 ⟨rfl, hb2⟩; have hb1 := bM.below hb2 bM.lt; have hk1 := bK.below hb2 bK.lt; have k4 := hk1.cell 4; have k5 := hk1.cell 5; have m0 := hb1.cell 0; have m1 := hb1.cell 1; replace hB := hB.trans (hb2.mono (Nat.le_of_lt bK.lt))) | (go_at_call 110; refine (h2 _).mono ?_; rintro r w3 ⟨rfl, rfl⟩))
        go_ret
        exact ⟨rfl, hB⟩
      · have t1 : (x4 == g0) = true := by simpa using hc
        have t2 : (x5 == g1) = false := by simpa using hr
        have t3 : decide (x4 = g0) = true := by simpa using hc
        have t4 : decide (x5 = g1) = false := by simpa using hr
        obtain rfl : R = 4 := by rw [← HR.out]; exact if_neg (fun h => hr h.2)
        have h2 := hte false
        rw [if_neg (by decide)] at h2
        clear hte hpr hc hr
        go_wp2_with (first | (go_at_call 118; refine hp.mono ?_; rintro r w2 ⟨rfl, hb2⟩; have hb1 := bM.below hb2 bM.lt; have hk1 := bK.below hb2 bK.lt; have k4 := hk1.cell 4; have k5 := hk1.cell 5; have m0 := hb1.cell 0; have m1 := hb1.cell 1; replace hB := hB.trans (hb2.mono (Nat.le_of_lt bK.lt))) | (go_at_call 110; refine (h2 _).mono ?_; rintro r w3 ⟨rfl, rfl⟩))
        go_ret
        exact ⟨rfl, hB⟩
    · have t1 : (x4 == g0) = false := by simpa using hc
      have t3 : decide (x4 = g0) = false := by simpa using hc
      obtain rfl : R = 4 := by rw [← HR.out]; exact if_neg (fun h => hc h.1.2)
      have h2 := hte false
      rw [if_neg (by decide)] at h2
      clear hte hpr hc
      go_wp2_with (first | (go_at_call 118; refine hp.mono ?_; rintro r w2 ⟨rfl, hb2⟩; have hb1 := bM.below hb2 bM.lt; have hk1 := bK.below hb2 bK.lt; have k4 := hk1.cell 4; have k5 := hk1.cell 5; have m0 := hb1.cell 0; have m1 := hb1.cell 1; replace hB := hB.trans (hb2.mono (Nat.le_of_lt bK.lt))) | (go_at_call 110; refine (h2 _).mono ?_; rintro r w3 ⟨rfl, rfl⟩))
      go_ret
      exact ⟨rfl, hB⟩
def planesE (x : ImgArg) : Int := firstE (fun i => planeE ((frG x).getD i ⟨0, 0, 0, 0⟩) (x.cs.getD i noComp)) x.cs.length 0
theorem frG_len (x : ImgArg) : (frG x).length = x.cs.length := by
  unfold frG gridsN psOf
  rw [List.length_map, partsOf_len, List.length_map]
theorem img_planes (x : ImgArg) (w : World) (h : IsImg w x.val x) (hf : FewOk x) (h0 : frE x = 0) :
    Calls Try.prog 61 #[x.val] w fun r w' => r = .returned (.int .i64 (planesE x)) ∧ Below w.heap.size w w' := by
  have hlc := hf.c20
  obtain ⟨cb, ccap, hcu⟩ := h.cs.len
  have hfr := fun W h => img_frame x W h hlc
  obtain ⟨N, hN⟩ : ∃ N, N = w.heap.size := ⟨_, rfl⟩
  have HN := Lib.hid hN
  rw [← hN]
  have hbe : Below w.heap.size w (w.alloc (.cells #[.int .i64 x.w, .int .i64 x.h, x.cu, x.qu, x.tu] 26)) := (Below.refl _ _).alloc (Nat.le_refl _) _
  unfold ImgArg.val at *
  rw [h0] at hfr
  have HCU := Lib.hid hcu
  obtain ⟨T, hT⟩ : ∃ T, planesE x = T := ⟨_, rfl⟩
  rw [hT]
  have HT := Lib.hid hT
  clear hN hcu hT
  go_enter Try.func61, Try.ntmps61
  go_upto_region 1 with fail
  rw [← HN.out]
  refine wp_world (fun W => Blk W N #[.int .i64 x.w, .int .i64 x.h, x.cu, x.qu, x.tu] 26 ∧ IsImg W (.agg #[.int .i64 x.w, .int .i64 x.h, x.cu, x.qu, x.tu]) x ∧ Below N w W) ⟨Blk.new' _ _ _ HN.out, h.below hbe, by rw [HN.out]; exact hbe⟩ ?_
  clear h hbe
  rintro W ⟨bN, hI, hB⟩
  go_upto_region 2 with (first | (refine wpList_load_row rfl 26 _ rfl N rfl 26 _ _ _ bN Try.underlying26 rfl (by kernel_rfl) ?_) | (go_at_call 48; refine (hfr _ hI).mono ?_; rintro e w1 ⟨f, rfl, hb1, -, hf2⟩; obtain ⟨F, rfl, hF, -⟩ := hf2 rfl))
  have hNl := bN.lt
  have hC := hB.trans (hb1.mono (Nat.le_of_lt hNl))
  have hal : Below w1.heap.size w1 (w1.alloc (.cells #[.pointer (some ⟨F, 0, none⟩)] 87)) := (Below.refl _ _).alloc (Nat.le_refl _) _
  obtain ⟨P, hP⟩ : ∃ P, P = w1.heap.size := ⟨_, rfl⟩
  rw [← hP]
  have hbN := bN.below hb1 hNl
  refine wp_world (fun W => Blk W N #[.int .i64 x.w, .int .i64 x.h, x.cu, x.qu, x.tu] 26 ∧ IsImg W (.agg #[.int .i64 x.w, .int .i64 x.h, x.cu, x.qu, x.tu]) x ∧ Blk W P #[.pointer (some ⟨F, 0, none⟩)] 87 ∧ IsFr W F (frG x) ∧ Below N w W) ⟨hbN.alloc _, (hI.below hb1).below hal, Blk.new' _ _ _ hP, hF.below hal, hC.alloc (Nat.le_trans (Nat.le_of_lt hNl) hb1.size) _⟩ ?_
  clear hal hP hF hC hb1 hI hB bN hbN hNl
  rintro W2 ⟨bN, hI, bP, hF, hB⟩
  have hcs := hI.cs
  rw [HCU.out] at hcs
  have hea := each_planes P cb ccap x.cs hlc (fun i => planeE ((frG x).getD i ⟨0, 0, 0, 0⟩) (x.cs.getD i noComp)) W2 hcs (fun i hi W hb => by
    have hg : i < (frG x).length := by rw [frG_len]; exact hi
    have := img_planes1 P F (frG x) i hg (x.cs[i]'hi) (by obtain ⟨ub, uc, hu, _⟩ := (hcs.ok _ (List.getElem_mem hi)).ar.len; exact ⟨ub, uc, hu⟩) W (bP.below hb bP.lt) (hF.below hb)
    have e1 : (frG x).getD i ⟨0, 0, 0, 0⟩ = (frG x)[i]'hg := by simp [List.getD_eq_getElem?_getD, hg]
    rw [e1, comp_getD hi]
    exact this)
  have q2 : W2.cell? ⟨N, 2, none⟩ = some (.slice cb x.cs.length ccap) := by rw [← HCU.out]; exact bN.cell 2
  have e2 : firstE (fun i => planeE ((frG x).getD i ⟨0, 0, 0, 0⟩) (x.cs.getD i noComp)) x.cs.length 0 = T := HT.out
  rw [e2] at hea
  clear e2
  clear hcs
  go_wp2_with (go_at_call 106; refine hea.mono ?_; rintro r w2 ⟨rfl, hb2⟩)
  go_ret
  exact ⟨rfl, hB.trans (hb2.mono (Nat.le_of_lt bN.lt))⟩
end Go.Proofs.Ytgmhhocpdfdplaa
/- Package image: all, and what it calls. -/
namespace Go.Proofs.Ytgmhhocpdfdplaa
open Go.RowKit
set_option maxRecDepth 100000
set_option maxHeartbeats 4000000
structure EarlyN (e : Nat → Int) (i : Nat) : Prop where
  z : ∀ j, j < i → e j = 0
/-- The closure that asks f of the image in block N, f being held in block K. -/
def askF (N K : Nat) : Value := .func (.func 56) #[] #[.pointer (some ⟨K, 0, none⟩), .pointer (some ⟨N, 0, none⟩)]
theorem img_all1 (i : Int) (N K : Nat) (e : Int) (w : World)
    (hc : ∀ W, Below w.heap.size w W → Calls Try.prog 56 #[.pointer (some ⟨K, 0, none⟩), .pointer (some ⟨N, 0, none⟩)] W fun r w' => r = .returned (.int .i64 e) ∧ Below W.heap.size W w') :
    Calls Try.prog 105 #[.int .i64 i, .func (.func 56) #[] #[.pointer (some ⟨K, 0, none⟩), .pointer (some ⟨N, 0, none⟩)]] w fun r w' => r = .returned (.int .i64 e) ∧ Below w.heap.size w w' := by
  have h1 := hc w (Below.refl _ _)
  clear hc
  go_enter Try.func105, Try.ntmps105
  go_wp2_with (go_at_call 56; refine h1.mono ?_; rintro r w1 ⟨rfl, hb1⟩)
  go_ret
  exact ⟨rfl, hb1⟩
theorem each_func (N B : Nat) (Ks : List Nat) (hl : Ks.length ≤ 100) (e : Nat → Int) (w : World) (bB : Blk w B (Ks.map (askF N)).toArray 100)
    (hc : ∀ (i : Nat) (hi : i < Ks.length) (W : World), (∀ j, j < i → e j = 0) → Below w.heap.size w W → Calls Try.prog 56 #[.pointer (some ⟨Ks[i]'hi, 0, none⟩), .pointer (some ⟨N, 0, none⟩)] W fun r w' => r = .returned (.int .i64 (e i)) ∧ Below W.heap.size W w') :
    Calls Try.prog 104 #[.slice (some ⟨B, 0, none⟩) Ks.length Ks.length, .func (.func 105) #[] #[]] w fun r w' => r = .returned (.int .i64 (firstE e Ks.length 0)) ∧ Below w.heap.size w w' := by
  obtain ⟨T, hT⟩ : ∃ T, firstE e Ks.length 0 = T := ⟨_, rfl⟩
  rw [hT]
  have HT := Lib.hid hT
  have HC := Lib.hid hc
  clear hT hc
  go_enter Try.func104, Try.ntmps104
  go_wp2
  go_loopw [10] (fun iv wr => ∃ i : Nat, iv = .int .i64 i ∧ i ≤ Ks.length ∧ firstE e (Ks.length - i) i = T ∧ EarlyN e i ∧ Below w.heap.size w wr) (fun iv _ => Ks.length - (intOf iv).toNat)
  case atStart => exact ⟨0, rfl, Nat.zero_le _, HT.out, ⟨fun j hj => absurd hj (by omega)⟩, Below.refl _ _⟩
  case round =>
    obtain ⟨i, rfl, hi, hf, hE, hB⟩ := hrel
    by_cases hlt : i < Ks.length
    · have tl : decide (i < Ks.length) = true := by simpa using hlt
      have c0 : wr.cell? ⟨B, i, none⟩ = some (.func (.func 56) #[] #[.pointer (some ⟨Ks[i]'hlt, 0, none⟩), .pointer (some ⟨N, 0, none⟩)]) := by
        rw [(bB.below hB bB.lt).cell i]
        simp [hlt, askF]
      have j0 : (0 : Int) ≤ (i : Int) := by omega
      have j1 : (i : Int) < (Ks.length : Int) := by omega
      rw [show Ks.length - i = Ks.length - (i + 1) + 1 by omega] at hf
      have HF := Lib.hid hf
      have hc := HC.out i hlt
      clear hf
      generalize (Ks[i]'hlt) = K at *
      have hca : Calls Try.prog 105 #[.int .i64 i, .func (.func 56) #[] #[.pointer (some ⟨K, 0, none⟩), .pointer (some ⟨N, 0, none⟩)]] wr fun r w' => r = .returned (.int .i64 (e i)) ∧ Below wr.heap.size wr w' := img_all1 i N K (e i) wr (fun W hb => hc W hE.z (hB.trans (hb.mono hB.size)))
      clear hc
      by_cases he0 : e i = 0
      · have hf := HF.out
        rw [firstE_go e _ i he0] at hf
        have HF2 := Lib.hid hf
        rw [he0] at hca
        have hE2 : EarlyN e (i + 1) := ⟨fun j hj => by
          by_cases hji : j = i
          · rw [hji]; exact he0
          · exact hE.z j (by omega)⟩
        clear hf he0 HF hE
        go_wp2_with (go_at_call 105; refine hca.mono ?_; rintro r w1 ⟨rfl, hb1⟩; replace hB := hB.trans (hb1.mono hB.size))
        go_roundw
        case rel => exact ⟨i + 1, by go_num, by omega, HF2.out, hE2, hB⟩
        case measure => simp [intOf]; omega
      · have hf := HF.out
        rw [firstE_stop e _ i he0] at hf
        rw [hf] at hca he0
        have tn : (T != 0) = true := by simpa using he0
        clear hf he0 HF
        go_wp2_with (go_at_call 105; refine hca.mono ?_; rintro r w1 ⟨rfl, hb1⟩; replace hB := hB.trans (hb1.mono hB.size))
        go_ret
        exact ⟨rfl, hB⟩
    · have tl : decide (i < Ks.length) = false := by simpa using hlt
      rw [show Ks.length - i = 0 by omega] at hf
      obtain rfl : T = 0 := hf.symm
      go_wp2
      go_ret
      exact ⟨rfl, hB⟩
theorem img_all (N B : Nat) (Ks : List Nat) (hl : Ks.length ≤ 100) (e : Nat → Int) (w : World) (bB : Blk w B (Ks.map (askF N)).toArray 100)
    (hc : ∀ (i : Nat) (hi : i < Ks.length) (W : World), (∀ j, j < i → e j = 0) → Below w.heap.size w W → Calls Try.prog 56 #[.pointer (some ⟨Ks[i]'hi, 0, none⟩), .pointer (some ⟨N, 0, none⟩)] W fun r w' => r = .returned (.int .i64 (e i)) ∧ Below W.heap.size W w') :
    Calls Try.prog 58 #[.slice (some ⟨B, 0, none⟩) Ks.length Ks.length] w fun r w' => r = .returned (.int .i64 (firstE e Ks.length 0)) ∧ Below w.heap.size w w' := by
  have hea := each_func N B Ks hl e w bB hc
  generalize firstE e Ks.length 0 = T at *
  clear hc
  go_enter Try.func58, Try.ntmps58
  go_wp2_with (go_at_call 104; refine hea.mono ?_; rintro r w1 ⟨rfl, hb1⟩)
  go_ret
  exact ⟨rfl, hb1⟩
theorem ask_comps (N K : Nat) (x : ImgArg) (hf : FewOk x) (w : World) (h : IsImg w x.val x) (bN : Blk w N #[.int .i64 x.w, .int .i64 x.h, x.cu, x.qu, x.tu] 26) (bK : Blk w K #[.func (.func 59) #[] #[]] 30) :
    Calls Try.prog 56 #[.pointer (some ⟨K, 0, none⟩), .pointer (some ⟨N, 0, none⟩)] w fun r w' => r = .returned (.int .i64 (compsE x.cs)) ∧ Below w.heap.size w w' := by
  have hc := img_comps x.val x w h hf
  have k0 : w.cell? ⟨K, 0, none⟩ = some (.func (.func 59) #[] #[]) := bK.cell 0
  generalize compsE x.cs = T at *
  unfold ImgArg.val at hc
  clear hf h
  go_enter Try.func56, Try.ntmps56
  go_wp2_with (first | (refine wpList_load_row rfl 26 _ rfl N rfl 26 _ _ _ bN Try.underlying26 rfl (by kernel_rfl) ?_) | (go_at_call 59; refine hc.mono ?_; rintro r w1 ⟨rfl, hb1⟩))
  go_ret
  exact ⟨rfl, hb1⟩
theorem ask_tables (N K : Nat) (x : ImgArg) (hf : FewOk x) (w : World) (h : IsImg w x.val x) (bN : Blk w N #[.int .i64 x.w, .int .i64 x.h, x.cu, x.qu, x.tu] 26) (bK : Blk w K #[.func (.func 60) #[] #[]] 30) :
    Calls Try.prog 56 #[.pointer (some ⟨K, 0, none⟩), .pointer (some ⟨N, 0, none⟩)] w fun r w' => r = .returned (.int .i64 (tablesE x)) ∧ Below w.heap.size w w' := by
  have hc := img_tables x.val x w h hf
  have k0 : w.cell? ⟨K, 0, none⟩ = some (.func (.func 60) #[] #[]) := bK.cell 0
  generalize tablesE x = T at *
  unfold ImgArg.val at hc
  clear hf h
  go_enter Try.func56, Try.ntmps56
  go_wp2_with (first | (refine wpList_load_row rfl 26 _ rfl N rfl 26 _ _ _ bN Try.underlying26 rfl (by kernel_rfl) ?_) | (go_at_call 60; refine hc.mono ?_; rintro r w1 ⟨rfl, hb1⟩))
  go_ret
  exact ⟨rfl, hb1⟩
theorem ask_blocks (N K : Nat) (x : ImgArg) (hf : FewOk x) (w : World) (h : IsImg w x.val x) (bN : Blk w N #[.int .i64 x.w, .int .i64 x.h, x.cu, x.qu, x.tu] 26) (bK : Blk w K #[.func (.func 62) #[] #[]] 30) :
    Calls Try.prog 56 #[.pointer (some ⟨K, 0, none⟩), .pointer (some ⟨N, 0, none⟩)] w fun r w' => r = .returned (.int .i64 (blocksE x.cs)) ∧ Below w.heap.size w w' := by
  have hc := img_blocks x.val x w h hf
  have k0 : w.cell? ⟨K, 0, none⟩ = some (.func (.func 62) #[] #[]) := bK.cell 0
  generalize blocksE x.cs = T at *
  unfold ImgArg.val at hc
  clear hf h
  go_enter Try.func56, Try.ntmps56
  go_wp2_with (first | (refine wpList_load_row rfl 26 _ rfl N rfl 26 _ _ _ bN Try.underlying26 rfl (by kernel_rfl) ?_) | (go_at_call 62; refine hc.mono ?_; rintro r w1 ⟨rfl, hb1⟩))
  go_ret
  exact ⟨rfl, hb1⟩
theorem ask_tags (N K : Nat) (x : ImgArg) (hf : FewOk x) (w : World) (h : IsImg w x.val x) (bN : Blk w N #[.int .i64 x.w, .int .i64 x.h, x.cu, x.qu, x.tu] 26) (bK : Blk w K #[.func (.func 63) #[] #[]] 30) :
    Calls Try.prog 56 #[.pointer (some ⟨K, 0, none⟩), .pointer (some ⟨N, 0, none⟩)] w fun r w' => r = .returned (.int .i64 (tagsE x.ts)) ∧ Below w.heap.size w w' := by
  have hc := img_tags x.val x w h hf
  have k0 : w.cell? ⟨K, 0, none⟩ = some (.func (.func 63) #[] #[]) := bK.cell 0
  generalize tagsE x.ts = T at *
  unfold ImgArg.val at hc
  clear hf h
  go_enter Try.func56, Try.ntmps56
  go_wp2_with (first | (refine wpList_load_row rfl 26 _ rfl N rfl 26 _ _ _ bN Try.underlying26 rfl (by kernel_rfl) ?_) | (go_at_call 63; refine hc.mono ?_; rintro r w1 ⟨rfl, hb1⟩))
  go_ret
  exact ⟨rfl, hb1⟩
/-- What Right makes of a question. -/
theorem right_part (N g : Nat) (w : World) : Calls Try.prog 55 #[.func (.func g) #[] #[], .pointer (some ⟨N, 0, none⟩)] w fun r w' => r = .returned (askF N w.heap.size) ∧ Blk w' w.heap.size #[.func (.func g) #[] #[]] 30 ∧ Below w.heap.size w w' ∧ w'.heap.size = w.heap.size + 1 := by
  have bK := Blk.new w #[.func (.func g) #[] #[]] 30
  have hb : Below w.heap.size w (w.alloc (.cells #[.func (.func g) #[] #[]] 30)) := (Below.refl _ _).alloc (Nat.le_refl _) _
  go_enter Try.func55, Try.ntmps55
  go_wp2
  go_ret
  exact ⟨rfl, bK, hb, by simp⟩
end Go.Proofs.Ytgmhhocpdfdplaa
/- Package image: Right. -/
namespace Go.Proofs.Ytgmhhocpdfdplaa
open Go.RowKit
set_option maxRecDepth 100000
set_option maxHeartbeats 8000000
theorem img_sides (x : ImgArg) (w : World) (h : IsImg w x.val x) (hf : FewOk x) :
    Calls Try.prog 57 #[x.val] w fun r w' => r = .returned (.int .i64 (frE x)) ∧ Below w.heap.size w w' := by
  have hfr := fun W h => img_frame x W h hf.c20
  obtain ⟨N, hN⟩ : ∃ N, N = w.heap.size := ⟨_, rfl⟩
  have HN := Lib.hid hN
  rw [← hN]
  have hbe : Below w.heap.size w (w.alloc (.cells #[.int .i64 x.w, .int .i64 x.h, x.cu, x.qu, x.tu] 26)) := (Below.refl _ _).alloc (Nat.le_refl _) _
  unfold ImgArg.val at *
  generalize frE x = E at *
  clear hN
  go_enter Try.func57, Try.ntmps57
  go_upto_region 1 with fail
  rw [← HN.out]
  refine wp_world (fun W => Blk W N #[.int .i64 x.w, .int .i64 x.h, x.cu, x.qu, x.tu] 26 ∧ IsImg W (.agg #[.int .i64 x.w, .int .i64 x.h, x.cu, x.qu, x.tu]) x ∧ Below N w W) ⟨Blk.new' _ _ _ HN.out, h.below hbe, by rw [HN.out]; exact hbe⟩ ?_
  clear h hbe
  rintro W ⟨bN, hI, hB⟩
  go_wp2_with (first | (refine wpList_load_row rfl 26 _ rfl N rfl 26 _ _ _ bN Try.underlying26 rfl (by kernel_rfl) ?_) | (go_at_call 48; refine (hfr _ hI).mono ?_; rintro e w1 ⟨f, rfl, hb1, -, -⟩))
  go_ret
  exact ⟨rfl, hB.trans (hb1.mono (Nat.le_of_lt bN.lt))⟩
theorem ask_sides (N K : Nat) (x : ImgArg) (hf : FewOk x) (w : World) (h : IsImg w x.val x) (bN : Blk w N #[.int .i64 x.w, .int .i64 x.h, x.cu, x.qu, x.tu] 26) (bK : Blk w K #[.func (.func 57) #[] #[]] 30) :
    Calls Try.prog 56 #[.pointer (some ⟨K, 0, none⟩), .pointer (some ⟨N, 0, none⟩)] w fun r w' => r = .returned (.int .i64 (frE x)) ∧ Below w.heap.size w w' := by
  have hc := img_sides x w h hf
  have k0 : w.cell? ⟨K, 0, none⟩ = some (.func (.func 57) #[] #[]) := bK.cell 0
  generalize frE x = T at *
  unfold ImgArg.val at hc
  clear hf h
  go_enter Try.func56, Try.ntmps56
  go_wp2_with (first | (refine wpList_load_row rfl 26 _ rfl N rfl 26 _ _ _ bN Try.underlying26 rfl (by kernel_rfl) ?_) | (go_at_call 57; refine hc.mono ?_; rintro r w1 ⟨rfl, hb1⟩))
  go_ret
  exact ⟨rfl, hb1⟩
theorem ask_planes (N K : Nat) (x : ImgArg) (hf : FewOk x) (h0 : frE x = 0) (w : World) (h : IsImg w x.val x) (bN : Blk w N #[.int .i64 x.w, .int .i64 x.h, x.cu, x.qu, x.tu] 26) (bK : Blk w K #[.func (.func 61) #[] #[]] 30) :
    Calls Try.prog 56 #[.pointer (some ⟨K, 0, none⟩), .pointer (some ⟨N, 0, none⟩)] w fun r w' => r = .returned (.int .i64 (planesE x)) ∧ Below w.heap.size w w' := by
  have hc := img_planes x w h hf h0
  have k0 : w.cell? ⟨K, 0, none⟩ = some (.func (.func 61) #[] #[]) := bK.cell 0
  generalize planesE x = T at *
  unfold ImgArg.val at hc
  clear hf h h0
  go_enter Try.func56, Try.ntmps56
  go_wp2_with (first | (refine wpList_load_row rfl 26 _ rfl N rfl 26 _ _ _ bN Try.underlying26 rfl (by kernel_rfl) ?_) | (go_at_call 61; refine hc.mono ?_; rintro r w1 ⟨rfl, hb1⟩))
  go_ret
  exact ⟨rfl, hb1⟩
def errL (x : ImgArg) : List Int := [frE x, compsE x.cs, tablesE x, planesE x, blocksE x.cs, tagsE x.ts]
/-- The image's error. -/
def imgE (x : ImgArg) : Int := firstE (fun i => (errL x).getD i 0) 6 0
theorem img_right (x : ImgArg) (w : World) (h : IsImg w x.val x) (hf : FewOk x) :
    Calls Try.prog 20 #[x.val] w fun r w' => r = .returned (.int .i64 (imgE x)) ∧ Below w.heap.size w w' := by
  obtain ⟨T, hT⟩ : ∃ T, imgE x = T := ⟨_, rfl⟩
  rw [hT]
  have HT := Lib.hid hT
  obtain ⟨N, hN⟩ : ∃ N, N = w.heap.size := ⟨_, rfl⟩
  have HN := Lib.hid hN
  rw [← hN]
  have hbe : Below w.heap.size w (w.alloc (.cells #[.int .i64 x.w, .int .i64 x.h, x.cu, x.qu, x.tu] 26)) := (Below.refl _ _).alloc (Nat.le_refl _) _
  have hrp := right_part N
  unfold askF at hrp
  unfold ImgArg.val at *
  clear hN hT
  go_enter Try.func20, Try.ntmps20
  go_upto_region 1 with fail
  rw [← HN.out]
  refine wp_world (fun W => Blk W N #[.int .i64 x.w, .int .i64 x.h, x.cu, x.qu, x.tu] 26 ∧ IsImg W (.agg #[.int .i64 x.w, .int .i64 x.h, x.cu, x.qu, x.tu]) x ∧ Below N w W) ⟨Blk.new' _ _ _ HN.out, h.below hbe, by rw [HN.out]; exact hbe⟩ ?_
  clear h hbe
  rintro W ⟨bN, hI, hB⟩
  go_wp2_with (first
    | (go_at_call 55; refine (hrp 57 _).mono ?_; rintro r w1 ⟨rfl, k1, hb1, s1⟩)
    | (go_at_call 55; refine (hrp 59 _).mono ?_; rintro r w2 ⟨rfl, k2, hb2, s2⟩)
    | (go_at_call 55; refine (hrp 60 _).mono ?_; rintro r w3 ⟨rfl, k3, hb3, s3⟩)
    | (go_at_call 55; refine (hrp 61 _).mono ?_; rintro r w4 ⟨rfl, k4, hb4, s4⟩)
    | (go_at_call 55; refine (hrp 62 _).mono ?_; rintro r w5 ⟨rfl, k5, hb5, s5⟩)
    | (go_at_call 55; refine (hrp 63 _).mono ?_; rintro r w6 ⟨rfl, k6, hb6, s6⟩))
  have d5 := hb5.trans (hb6.mono hb5.size)
  have d4 := hb4.trans (d5.mono hb4.size)
  have d3 := hb3.trans (d4.mono hb3.size)
  have d2 := hb2.trans (d3.mono hb2.size)
  have d1 := hb1.trans (d2.mono hb1.size)
  have s2' := s2; have s3' := s3; have s4' := s4; have s5' := s5; have s6' := s6
  rw [s1] at s2'; rw [s2'] at s3'; rw [s3'] at s4'; rw [s4'] at s5'; rw [s5'] at s6'
  have K1 := k1.below d2 k1.lt
  have K2 := k2.below d3 k2.lt
  have K3 := k3.below d4 k3.lt
  have K4 := k4.below d5 k4.lt
  have K5 := k5.below hb6 k5.lt
  rw [s1] at K2; rw [s2'] at K3; rw [s3'] at K4; rw [s4'] at K5; rw [s5'] at k6
  have hI6 := hI.below d1
  have hN6 := bN.below d1 bN.lt
  have hB6 := hB.trans (d1.mono (Nat.le_of_lt bN.lt))
  have hNl := hN6.lt
  have hS := s6'
  clear k1 k2 k3 k4 k5 hb1 hb2 hb3 hb4 hb5 hb6 d1 d2 d3 d4 d5 s1 s2 s3 s4 s5 s6 s2' s3' s4' s5' s6' hI bN hB
  generalize W.heap.size = m at *
  have hal : ∀ o, Below w6.heap.size w6 (w6.alloc o) := fun o => (Below.refl _ _).alloc (Nat.le_refl _) _
  refine Calls.mono (img_all N (m + 1 + 1 + 1 + 1 + 1 + 1) [m, m + 1, m + 1 + 1, m + 1 + 1 + 1, m + 1 + 1 + 1 + 1, m + 1 + 1 + 1 + 1 + 1] (by simp) (fun i => (errL x).getD i 0) _ (Blk.new' _ _ _ hS.symm) ?_) ?_
  · intro i hi W' hz hb
    have hI' := (hI6.below (hal _)).below hb
    have hN' := (hN6.below (hal _) hNl).below hb (Nat.lt_of_lt_of_le hNl (hal _).size)
    have hk : ∀ k g, Blk w6 k #[.func (.func g) #[] #[]] 30 → Blk W' k #[.func (.func g) #[] #[]] 30 := fun k g hK => (hK.below (hal _) hK.lt).below hb (Nat.lt_of_lt_of_le hK.lt (hal _).size)
    match i, hi with
    | 0, _ => exact ask_sides N m x hf W' hI' hN' (hk _ _ K1)
    | 1, _ => exact ask_comps N (m + 1) x hf W' hI' hN' (hk _ _ K2)
    | 2, _ => exact ask_tables N (m + 1 + 1) x hf W' hI' hN' (hk _ _ K3)
    | 3, _ => exact ask_planes N (m + 1 + 1 + 1) x hf (hz 0 (by decide)) W' hI' hN' (hk _ _ K4)
    | 4, _ => exact ask_blocks N (m + 1 + 1 + 1 + 1) x hf W' hI' hN' (hk _ _ K5)
    | 5, _ => exact ask_tags N (m + 1 + 1 + 1 + 1 + 1) x hf W' hI' hN' (hk _ _ k6)
  have e2 : firstE (fun i => (errL x).getD i 0) 6 0 = T := HT.out
  rintro r w7 ⟨rfl, hb7⟩
  have e3 : firstE (fun i => (errL x).getD i 0) [m, m + 1, m + 1 + 1, m + 1 + 1 + 1, m + 1 + 1 + 1 + 1, m + 1 + 1 + 1 + 1 + 1].length 0 = T := e2
  rw [e3]
  go_wp2
  go_ret
  refine ⟨rfl, hB6.trans (Below.trans ((hal _).mono (Nat.le_of_lt hNl)) (hb7.mono ?_))⟩
  exact Nat.le_of_lt (Nat.lt_of_lt_of_le hNl (hal _).size)
end Go.Proofs.Ytgmhhocpdfdplaa
/- The reference's cover, Ranged. -/
namespace Go.Proofs.Ytgmhhocpdfdplaa
open Go.RowKit
set_option maxRecDepth 100000
set_option maxHeartbeats 4000000
theorem upI_ediv (a b : Int) (hb : 1 ≤ b) : (a % b = 0 → upI a b = a / b) ∧ (0 < a % b → upI a b = a / b + 1) := by
  have hb0 : 0 < b := by omega
  have h1 := Int.emod_add_mul_ediv a b
  have h2 := Int.emod_nonneg a (show b ≠ 0 by omega)
  have h3 := Int.emod_lt_of_pos a hb0
  unfold upI
  refine ⟨fun hr => ?_, fun hr => ?_⟩
  · refine ((Int.ediv_emod_unique hb0 (r := b - 1)).2 ⟨?_, by omega, by omega⟩).1
    rw [hr] at h1
    omega
  · refine ((Int.ediv_emod_unique hb0 (r := a % b - 1)).2 ⟨?_, by omega, by omega⟩).1
    rw [Int.mul_add, Int.mul_one]
    omega
theorem ref_cover (a b : Int) (ha : 0 ≤ a) (ha2 : a ≤ 1000000) (hb : 1 ≤ b) (hb2 : b ≤ 1000000) (w : World) : Calls Try.prog 126 #[.int .i64 a, .int .i64 b] w fun r w' => r = .returned (.int .i64 (upI a b)) ∧ w = w' := by
  obtain ⟨u0, u1⟩ := upI_ediv a b hb
  have hb0 : b ≠ 0 := by omega
  have hbm : b ≠ -1 := by omega
  have hr0 := Int.emod_nonneg a hb0
  have hq : a / b ≤ a := Int.ediv_le_self _ ha
  have hq0 : 0 ≤ a / b := Int.ediv_nonneg ha (by omega)
  by_cases h : a % b = 0
  · rw [u0 h]
    have t : decide (0 < a % b) = false := decide_eq_false (by omega)
    clear u0 u1 h hr0
    go_enter Try.func126, Try.ntmps126
    go_wp2
    go_ret
    exact ⟨rfl, rfl⟩
  · rw [u1 (by omega)]
    have t : decide (0 < a % b) = true := decide_eq_true (by omega)
    clear u0 u1 h hr0
    go_enter Try.func126, Try.ntmps126
    go_wp2
    go_ret
    exact ⟨rfl, rfl⟩
theorem ref_ranged (xs : List Int) (hl : xs.length = 64) (w : World) :
    Calls Try.prog 67 #[.agg (ints .i16 xs)] w fun e w' => e = .returned (.bool (rangedB xs)) ∧ Below w.heap.size w w' := by
  obtain ⟨p, hp⟩ : ∃ p : Nat → Bool, (fun k => okC (xs.getD (k + 1) 0)) = p := ⟨_, rfl⟩
  obtain ⟨R, hR⟩ : ∃ R, rangedB xs = R := ⟨_, rfl⟩
  rw [hR]
  unfold rangedB at hR
  rw [hp] at hR
  have HP := Lib.hid hp
  obtain ⟨N, hN⟩ : ∃ N, N = w.heap.size := ⟨_, rfl⟩
  have HN := Lib.hid hN
  rw [← hN]
  have hg0 := ints_get .i16 xs 0 (by omega)
  obtain ⟨x, hx⟩ : ∃ x, xs.getD 0 0 = x := ⟨_, rfl⟩
  rw [hx] at hg0 hR
  have hbe : Below N w (w.alloc (.cells (ints .i16 xs) 57)) := (Below.refl _ _).alloc (by rw [hN]; exact Nat.le_refl _) _
  clear hN hp hx
  by_cases h0 : -1024 ≤ x ∧ x < 1024
  · have t1 : decide (x < -1024) = false := decide_eq_false (by omega)
    have t2 : decide (1023 < x) = false := decide_eq_false (by omega)
    rw [decide_eq_true h0, Bool.true_and] at hR
    have HR := Lib.hid hR
    clear hR h0
    go_enter Try.func67, Try.ntmps67
    go_upto_region 1 with fail
    rw [← HN.out]
    refine wp_world (fun W => Blk W N (ints .i16 xs) 57 ∧ Below N w W) ⟨Blk.new' _ _ _ HN.out, hbe⟩ ?_
    rintro W ⟨bN, hB⟩
    have q0 : W.cell? ⟨N, 0, none⟩ = some (.int .i16 x) := by rw [bN.cell 0]; exact hg0
    go_wp2
    go_loop [3] (fun iv => ∃ i : Nat, iv = .int .i64 ((i : Int) + 1) ∧ i ≤ 63 ∧ allOk p (63 - i) i = R) (fun iv => 64 - (intOf iv).toNat)
    case atStart => exact ⟨0, rfl, by omega, HR.out⟩
    case round =>
      obtain ⟨i, rfl, hi, hf⟩ := hrel
      by_cases hlt : i < 63
      · have tl : decide ((i : Int) + 1 < 64) = true := by simp; omega
        have c : W.cell? ⟨N, i + 1, none⟩ = some (.int .i16 (xs.getD (i + 1) 0)) := by rw [bN.cell (i + 1)]; exact ints_get _ _ _ (by omega)
        have j0 : (0 : Int) ≤ (i : Int) + 1 := by omega
        have j1 : (i : Int) + 1 < 64 := by omega
        have j2 : ((i : Int) + 1).toNat = i + 1 := by omega
        have hpi : p i = okC (xs.getD (i + 1) 0) := by rw [← HP.out]
        rw [show 63 - i = 63 - (i + 1) + 1 by omega] at hf
        have HF := Lib.hid hf
        clear hf
        generalize xs.getD (i + 1) 0 = y at *
        by_cases hy : -1023 ≤ y ∧ y ≤ 1023
        · have hf := HF.out
          rw [allOk_go p _ i (by rw [hpi]; exact decide_eq_true hy)] at hf
          have HF2 := Lib.hid hf
          have s1 : decide (y < -1023) = false := decide_eq_false (by omega)
          have s2 : decide (1023 < y) = false := decide_eq_false (by omega)
          clear hf HF hpi hy
          go_wp2
          go_round
          case rel => exact ⟨i + 1, by go_num, by omega, HF2.out⟩
          case measure => simp [intOf]; omega
        · have hf := HF.out
          rw [allOk_stop p _ i (by rw [hpi]; exact decide_eq_false hy)] at hf
          have ss : decide (y < -1023) = true ∨ (decide (y < -1023) = false ∧ decide (1023 < y) = true) := by simp only [decide_eq_true_eq, decide_eq_false_iff_not]; omega
          clear HF hpi hy
          subst hf
          rcases ss with s1 | ⟨s1, s2⟩
          all_goals
            go_wp2
            go_ret
            exact ⟨rfl, hB⟩
      · have tl : decide ((i : Int) + 1 < 64) = false := by simp; omega
        rw [show 63 - i = 0 by omega] at hf
        obtain rfl : R = true := hf.symm
        go_wp2
        go_ret
        exact ⟨rfl, hB⟩
  · rw [decide_eq_false h0, Bool.false_and] at hR
    subst hR
    have ss : decide (x < -1024) = true ∨ (decide (x < -1024) = false ∧ decide (1023 < x) = true) := by simp only [decide_eq_true_eq, decide_eq_false_iff_not]; omega
    clear h0
    rcases ss with t1 | ⟨t1, t2⟩
    all_goals
      go_enter Try.func67, Try.ntmps67
      go_upto_region 1 with fail
      rw [← HN.out]
      refine wp_world (fun W => Blk W N (ints .i16 xs) 57 ∧ Below N w W) ⟨Blk.new' _ _ _ HN.out, hbe⟩ ?_
      rintro W ⟨bN, hB⟩
      have q0 : W.cell? ⟨N, 0, none⟩ = some (.int .i16 x) := by rw [bN.cell 0]; exact hg0
      go_wp2
      go_ret
      exact ⟨rfl, hB⟩
end Go.Proofs.Ytgmhhocpdfdplaa
/- The reference's comps. -/
namespace Go.Proofs.Ytgmhhocpdfdplaa
open Go.RowKit
set_option maxRecDepth 100000
set_option maxHeartbeats 8000000
/-- What the inner loop keeps: so far no component has this id. -/
def TwInv (M N i : Nat) (p : Nat → Bool) (tw : Bool) (w0 : World) (cm ci : Array Value) (ta tb : TypeId) (kv : Value) (wq : World) : Prop :=
  ∃ k : Nat, kv = .int .i64 k ∧ k ≤ i ∧ anyF p (i - k) k = tw ∧ Blk wq M cm ta ∧ Blk wq N ci tb ∧ Below w0.heap.size w0 wq
theorem ref_comps (v : Value) (x : ImgArg) (w : World) (h : IsImg w v x) (hf : FewOk x) :
    Calls Try.prog 64 #[v] w fun r w' => r = .returned (.int .i64 (compsE x.cs)) ∧ Below w.heap.size w w' := by
  obtain ⟨rfl, -, -, hcs, -, -⟩ := h
  have hl := hf.c20
  obtain ⟨xw, xh, cu, qu, tu, cs, qs, ts⟩ := x
  simp only [ImgArg.val] at *
  obtain ⟨cb, ccap, hcu, hcc, -⟩ := hcs.el.len
  rw [List.length_map] at hcu hcc
  subst hcu
  have hbe : Below w.heap.size w (w.alloc (.cells #[.int .i64 xw, .int .i64 xh, .slice cb cs.length ccap, qu, tu] 26)) := (Below.refl _ _).alloc (Nat.le_refl _) _
  obtain ⟨N, hN⟩ : ∃ N, N = w.heap.size := ⟨_, rfl⟩
  have HN := Lib.hid hN
  rw [← hN]
  obtain ⟨e, he⟩ : ∃ e : Nat → Int, (fun i => compE cs i (cs.getD i noComp)) = e := ⟨_, rfl⟩
  obtain ⟨R, hR⟩ : ∃ R, compsE cs = R := ⟨_, rfl⟩
  rw [hR]
  unfold compsE at hR
  rw [he] at hR
  have HR := Lib.hid hR
  have HE := Lib.hid he
  clear hf hN hR he
  go_enter Try.func64, Try.ntmps64
  go_upto_region 1 with fail
  rw [← HN.out]
  refine wp_world (fun W => Blk W N #[.int .i64 xw, .int .i64 xh, .slice cb cs.length ccap, qu, tu] 26 ∧ IsComps W (.slice cb cs.length ccap) cs ∧ Below N w W) ⟨Blk.new' _ _ _ HN.out, hcs.below hbe, by rw [HN.out]; exact hbe⟩ ?_
  clear hcs hbe
  rintro W0 ⟨bN0, hcs0, hB0⟩
  go_wp2
  go_loopw [3] (fun iv wr => ∃ i : Nat, iv = .int .i64 i ∧ i ≤ cs.length ∧ firstE e (cs.length - i) i = R ∧ Below W0.heap.size W0 wr) (fun iv _ => cs.length - (intOf iv).toNat)
  case atStart => exact ⟨0, rfl, Nat.zero_le _, HR.out, Below.refl _ _⟩
  case round =>
    obtain ⟨i, rfl, hi, hf, hB⟩ := hrel
    have bN := bN0.below hB bN0.lt
    have q2 : wr.cell? ⟨N, 2, none⟩ = some (.slice cb cs.length ccap) := bN.cell 2
    have hNW : N < W0.heap.size := bN0.lt
    by_cases hlt : i < cs.length
    · have tl : decide (i < cs.length) = true := by simpa using hlt
      obtain ⟨a, rfl, c0, c1, c2, c3, c4, c5, c6⟩ := (hcs0.below hB).at hlt
      have j0 : (0 : Int) ≤ (i : Int) := by omega
      have j1 : (i : Int) < (cs.length : Int) := by omega
      have hu : ∃ ub un uc, (cs[i]'hlt).u = .slice ub un uc := by
        obtain ⟨ub, uc, hu, _⟩ := (hcs0.ok _ (List.getElem_mem hlt)).ar.len
        exact ⟨ub, _, uc, hu⟩
      obtain ⟨ub, un, uc, hu⟩ := hu
      have hei : e i = compE cs i (cs[i]'hlt) := by rw [← HE.out]; simp only [comp_getD hlt]
      unfold compE at hei
      rw [hu] at c6
      rw [show cs.length - i = cs.length - (i + 1) + 1 by omega] at hf
      have HF := Lib.hid hf
      clear hf hu
      generalize (cs[i]'hlt).id = x0 at *
      generalize (cs[i]'hlt).h = x1 at *
      generalize (cs[i]'hlt).v = x2 at *
      generalize (cs[i]'hlt).q = x3 at *
      generalize (cs[i]'hlt).c = x4 at *
      generalize (cs[i]'hlt).r = x5 at *
      obtain ⟨M, hM⟩ : ∃ M, M = wr.heap.size := ⟨_, rfl⟩
      have HM := Lib.hid hM
      have hbe : Below wr.heap.size wr (wr.alloc (.cells #[.int .i64 x0, .int .i64 x1, .int .i64 x2, .int .i64 x3, .int .i64 x4, .int .i64 x5, .slice ub un uc] 63)) := (Below.refl _ _).alloc (Nat.le_refl _) _
      have hNM : W0.heap.size ≤ wr.heap.size := hB.size
      clear hM
      go_upto_region 5 with fail
      rw [← HM.out]
      refine wp_world (fun W => Blk W M #[.int .i64 x0, .int .i64 x1, .int .i64 x2, .int .i64 x3, .int .i64 x4, .int .i64 x5, .slice ub un uc] 63 ∧ Blk W N #[.int .i64 xw, .int .i64 xh, .slice (some a) cs.length ccap, qu, tu] 26 ∧ Below W0.heap.size W0 W) ⟨Blk.new' _ _ _ HM.out, bN.below hbe bN.lt, hB.trans (hbe.mono hNM)⟩ ?_
      clear c0 c1 c2 c3 c4 c5 c6 q2 bN hbe hB hNM
      rintro W ⟨bM, bN, hB⟩
      have p0 : W.cell? ⟨M, 0, none⟩ = some (.int .i64 x0) := bM.cell 0
      have p3 : W.cell? ⟨M, 3, none⟩ = some (.int .i64 x3) := bM.cell 3
      have hBN : ∀ {W' : World}, Below W0.heap.size W0 W' → Below N w W' := fun hb => hB0.trans (hb.mono (Nat.le_of_lt hNW))
      by_cases hok : 0 ≤ x0 ∧ x0 ≤ 255 ∧ 0 ≤ x3 ∧ x3 < 4
      · have s1 : decide (x0 < 0) = false := decide_eq_false (by omega)
        have s2 : decide (255 < x0) = false := decide_eq_false (by omega)
        have s3 : decide (x3 < 0) = false := decide_eq_false (by omega)
        have s4 : decide (3 < x3) = false := decide_eq_false (by omega)
        obtain ⟨p, hp⟩ : ∃ p : Nat → Bool, (fun k => decide ((cs.getD k noComp).id = x0)) = p := ⟨_, rfl⟩
        rw [hp] at hei
        obtain ⟨tw, htw⟩ : ∃ tw, anyF p i 0 = tw := ⟨_, rfl⟩
        rw [htw] at hei
        have HTW := Lib.hid htw
        have HP := Lib.hid hp
        have HEI := Lib.hid hei
        have HOK := Lib.hid hok
        clear hei htw hp hok
        go_wp2
        clear p0 p3
        go_loopw [5] (fun kv wq => TwInv M N i p tw W0 #[.int .i64 x0, .int .i64 x1, .int .i64 x2, .int .i64 x3, .int .i64 x4, .int .i64 x5, .slice ub un uc] #[.int .i64 xw, .int .i64 xh, .slice (some a) cs.length ccap, qu, tu] 63 26 kv wq) (fun kv _ => i - (intOf kv).toNat)
        case atStart => exact ⟨0, rfl, Nat.zero_le _, HTW.out, bM, bN, hB⟩
        case round =>
          clear bM bN hB
          obtain ⟨k, rfl, hk, hany, bM, bN, hB⟩ := hrel
          have q2 := bN.cell 2
          have p0 := bM.cell 0
          simp only [List.getElem?_toArray, List.getElem?_cons_zero, List.getElem?_cons_succ] at q2 p0
          by_cases hki : k < i
          · have tk : decide (k < i) = true := by simpa using hki
            have hkc : k < cs.length := by omega
            obtain ⟨a', ha', c0, -⟩ := (hcs0.below hB).at hkc
            obtain rfl : a = a' := Option.some.inj ha'
            have k0 : (0 : Int) ≤ (k : Int) := by omega
            have k1 : (k : Int) < (cs.length : Int) := by omega
            have hpk : p k = decide ((cs[k]'hkc).id = x0) := by rw [← HP.out]; simp only [comp_getD hkc]
            rw [show i - k = i - (k + 1) + 1 by omega] at hany
            have HANY := Lib.hid hany
            have hBn : ∀ (W' : World) n, Below W0.heap.size W0 W' → Below W0.heap.size W0 (W'.drewN n) := fun W' n hb => ⟨hb.os, hb.tape, hb.output, hb.size, hb.block⟩
            clear hany ha'
            generalize (cs[k]'hkc).id = y at *
            by_cases hy : y = x0
            · have hany := HANY.out
              rw [anyF_stop p _ k (by rw [hpk]; exact decide_eq_true hy)] at hany
              subst hany
              have hR7 : R = 7 := by
                rw [← HF.out, firstE_stop e _ i (by rw [HEI.out]; simp), HEI.out]
                simp
              subst hR7
              clear HANY hpk HEI HF
              subst hy
              have ty : (y == y) = true := by simp
              go_upto_region 10 with fail
              go_quiet (fail)
              go_wp2
              go_ret
              exact ⟨rfl, hBN (hBn _ _ hB)⟩
            · have hany := HANY.out
              rw [anyF_go p _ k (by rw [hpk]; exact decide_eq_false hy)] at hany
              have HANY2 := Lib.hid hany
              have ty : (y == x0) = false := beq_eq_false_iff_ne.2 hy
              have ty2 : decide (y = x0) = false := decide_eq_false hy
              clear hany HANY hpk hy
              go_upto_region 10 with fail
              go_quiet (fail)
              go_wp2
              go_roundw
              case rel => exact ⟨k + 1, by go_num, by omega, HANY2.out, bM, bN, hBn _ _ hB⟩
              case measure => simp [intOf]; omega
          · have tk : decide (k < i) = false := by simpa using hki
            rw [show i - k = 0 by omega] at hany
            obtain rfl : tw = false := hany.symm
            have he0 : e i = 0 := by rw [HEI.out, if_pos ⟨HOK.out.1, HOK.out.2.1, rfl, HOK.out.2.2.1, HOK.out.2.2.2⟩]
            have hf := HF.out
            rw [firstE_go e _ i he0] at hf
            have HF2 := Lib.hid hf
            clear hf he0 HF HEI hany
            go_wp2
            go_roundw
            case rel => exact ⟨i + 1, by go_num, by omega, HF2.out, hB⟩
            case measure => simp [intOf]; omega
      · rw [if_neg (fun hh => hok ⟨hh.1, hh.2.1, hh.2.2.2.1, hh.2.2.2.2⟩)] at hei
        have hR7 : R = 7 := by rw [← HF.out, firstE_stop e _ i (by rw [hei]; decide), hei]
        subst hR7
        have ss : decide (x0 < 0) = true ∨ (decide (x0 < 0) = false ∧ decide (255 < x0) = true) ∨ (decide (x0 < 0) = false ∧ decide (255 < x0) = false ∧ decide (x3 < 0) = true) ∨ (decide (x0 < 0) = false ∧ decide (255 < x0) = false ∧ decide (x3 < 0) = false ∧ decide (3 < x3) = true) := by simp only [decide_eq_true_eq, decide_eq_false_iff_not]; omega
        clear hei hok HF
        rcases ss with s1 | ⟨s1, s2⟩ | ⟨s1, s2, s3⟩ | ⟨s1, s2, s3, s4⟩
        all_goals
          go_wp2
          go_ret
          exact ⟨rfl, hBN hB⟩
    · have tl : decide (i < cs.length) = false := by simpa using hlt
      rw [show cs.length - i = 0 by omega] at hf
      obtain rfl : R = 0 := hf.symm
      go_wp2
      go_ret
      exact ⟨rfl, hB0.trans (hB.mono (Nat.le_of_lt hNW))⟩
end Go.Proofs.Ytgmhhocpdfdplaa
/- The reference's Size. -/
namespace Go.Proofs.Ytgmhhocpdfdplaa
open Go.RowKit
set_option maxRecDepth 100000
set_option maxHeartbeats 4000000
/-- A sum over the first places. -/
def accN (f : Nat → Nat) : Nat → Nat
  | 0 => 0
  | n + 1 => accN f n + f n
def noTag : TagArg := ⟨0, ⟨#[]⟩⟩
def blN (x : ImgArg) (k : Nat) : Nat := (x.cs.getD k noComp).bs.length
def tlN (x : ImgArg) (k : Nat) : Nat := (x.ts.getD k noTag).body.size
/-- How much room an image takes. -/
def sizeN (x : ImgArg) : Nat := 64 + 16 * x.cs.length + 128 * accN (blN x) x.cs.length + 132 * x.qs.length + 4 * x.ts.length + accN (tlN x) x.ts.length
theorem ref_size (v : Value) (x : ImgArg) (w : World) (h : IsImg w v x) (hf : FewOk x) :
    Calls Try.prog 23 #[v] w fun e w' => e = .returned (.int .i64 (sizeN x : Nat)) ∧ Below w.heap.size w w' := by
  obtain ⟨rfl, -, -, hcs, hqs, hts⟩ := h
  obtain ⟨f1, f2, f3, f4, f5⟩ := hf
  obtain ⟨R, hR⟩ : ∃ R, sizeN x = R := ⟨_, rfl⟩
  rw [hR]
  unfold sizeN at hR
  obtain ⟨bf, hbf⟩ : ∃ bf, blN x = bf := ⟨_, rfl⟩
  obtain ⟨tf, htf⟩ : ∃ tf, tlN x = tf := ⟨_, rfl⟩
  rw [hbf, htf] at hR
  have hb : ∀ k, (hk : k < x.cs.length) → bf k = (x.cs[k]'hk).bs.length := fun k hk => by rw [← hbf]; unfold blN; rw [comp_getD hk]
  have ht : ∀ k, (hk : k < x.ts.length) → tf k = (x.ts[k]'hk).body.size := fun k hk => by rw [← htf]; unfold tlN; simp [List.getD_eq_getElem?_getD, hk]
  clear hbf htf
  obtain ⟨xw, xh, cu, qu, tu, cs, qs, ts⟩ := x
  simp only [ImgArg.val] at *
  obtain ⟨cb, ccap, rfl⟩ := hcs.len
  obtain ⟨qb, qcap, rfl⟩ := hqs.len
  obtain ⟨tb, tcap, rfl⟩ := hts.len
  obtain ⟨N, hN⟩ : ∃ N, N = w.heap.size := ⟨_, rfl⟩
  have HN := Lib.hid hN
  rw [← hN]
  have HR := Lib.hid hR
  have HB := Lib.hid hb
  have HT := Lib.hid ht
  have F4 := Lib.hid f4
  have F5 := Lib.hid f5
  have hbe : Below w.heap.size w (w.alloc (.cells #[.int .i64 xw, .int .i64 xh, .slice cb cs.length ccap, .slice qb qs.length qcap, .slice tb ts.length tcap] 26)) := (Below.refl _ _).alloc (Nat.le_refl _) _
  clear hN hR hb ht f4 f5
  go_enter Try.func23, Try.ntmps23
  go_upto_region 1 with fail
  rw [← HN.out]
  refine wp_world (fun W => Blk W N #[.int .i64 xw, .int .i64 xh, .slice cb cs.length ccap, .slice qb qs.length qcap, .slice tb ts.length tcap] 26 ∧ IsComps W (.slice cb cs.length ccap) cs ∧ IsTags W (.slice tb ts.length tcap) ts ∧ Below N w W) ⟨Blk.new' _ _ _ HN.out, hcs.below hbe, hts.below hbe, by rw [HN.out]; exact hbe⟩ ?_
  clear hcs hts hqs hbe
  rintro W ⟨bN, hcs, hts, hB⟩
  have q2 := bN.cell 2
  have q3 := bN.cell 3
  have q4 := bN.cell 4
  simp only [List.getElem?_toArray, List.getElem?_cons_zero, List.getElem?_cons_succ] at q2 q3 q4
  go_wp2
  go_loop [3, 4] (fun nv iv => ∃ (m i : Nat), nv = .int .i64 m ∧ iv = .int .i64 i ∧ i ≤ cs.length ∧ m ≤ 64 + 2560016 * i ∧ Hid (m = 64 + 16 * i + 128 * accN bf i)) (fun _ iv => cs.length - (intOf iv).toNat)
  case atStart => exact ⟨64, 0, rfl, rfl, Nat.zero_le _, by omega, Lib.hid (by simp [accN])⟩
  case round =>
    obtain ⟨m, i, rfl, rfl, hi, hm, HM⟩ := hrel
    by_cases hlt : i < cs.length
    · have tl : decide (i < cs.length) = true := by simpa using hlt
      obtain ⟨a, rfl, c0, c1, c2, c3, c4, c5, c6⟩ := hcs.at hlt
      obtain ⟨ub, ucap, hu, -⟩ := (hcs.ok _ (List.getElem_mem hlt)).ar.len
      rw [hu] at c6
      have j0 : (0 : Int) ≤ (i : Int) := by omega
      have j1 : (i : Int) < (cs.length : Int) := by omega
      have hz3 := F4.out _ (List.getElem_mem hlt)
      have hbz := HB.out i hlt
      generalize (cs[i]'hlt).bs.length = z at *
      have HBZ := Lib.hid hbz
      clear hu c0 c1 c2 c3 c4 c5 hbz
      go_wp2
      go_round
      case rel => exact ⟨m + 16 + 128 * z, i + 1, by go_num, by go_num, by omega, by omega, Lib.hid (by have h1 := HM.out; have h2 := HBZ.out; simp only [accN]; omega)⟩
      case measure => simp [intOf]; omega
    · have tl : decide (i < cs.length) = false := by simpa using hlt
      obtain rfl : i = cs.length := by omega
      have hm2 : m ≤ 52000000 := by omega
      go_wp2
      go_loop [3, 5] (fun nv jv => ∃ (k j : Nat), nv = .int .i64 k ∧ jv = .int .i64 j ∧ j ≤ ts.length ∧ k ≤ 53000000 + 140004 * j ∧ Hid (k = 64 + 16 * cs.length + 128 * accN bf cs.length + 132 * qs.length + 4 * j + accN tf j)) (fun _ jv => ts.length - (intOf jv).toNat)
      case atStart => exact ⟨m + 132 * qs.length, 0, by go_num, rfl, Nat.zero_le _, by omega, Lib.hid (by have h1 := HM.out; simp only [accN]; omega)⟩
      case round =>
        obtain ⟨k, j, rfl, rfl, hj, hk, HK⟩ := hrel
        by_cases hlt2 : j < ts.length
        · have tl2 : decide (j < ts.length) = true := by simpa using hlt2
          obtain ⟨a, rfl, c0, c1⟩ := hts.at hlt2
          have j0 : (0 : Int) ≤ (j : Int) := by omega
          have j1 : (j : Int) < (ts.length : Int) := by omega
          have hz5 := F5.out _ (List.getElem_mem hlt2)
          have htz := HT.out j hlt2
          generalize (ts[j]'hlt2).body = sb at *
          have HTZ := Lib.hid htz
          clear c0 htz
          go_wp2
          go_round
          case rel => exact ⟨k + 4 + sb.size, j + 1, by go_num, by go_num, by omega, by omega, Lib.hid (by have h1 := HK.out; have h2 := HTZ.out; simp only [accN]; omega)⟩
          case measure => simp [intOf]; omega
        · have tl2 : decide (j < ts.length) = false := by simpa using hlt2
          obtain rfl : j = ts.length := by omega
          obtain rfl : k = R := by rw [← HR.out]; exact HK.out
          go_wp2
          go_ret
          exact ⟨rfl, hB⟩
end Go.Proofs.Ytgmhhocpdfdplaa
/- Package image: Size, given what Right answers. -/
namespace Go.Proofs.Ytgmhhocpdfdplaa
open Go.RowKit
set_option maxRecDepth 100000
set_option maxHeartbeats 8000000
theorem img_size_bad (v : Value) (x : ImgArg) (e : Int) (he : e ≠ 0) (w : World) (h : IsImg w v x)
    (hr : ∀ W, IsImg W v x → Calls Try.prog 20 #[v] W fun r w' => r = .returned (.int .i64 e) ∧ Below W.heap.size W w') :
    Calls Try.prog 21 #[v] w fun r w' => r = .returned (.tuple #[.int .i64 0, .int .i64 e]) ∧ Below w.heap.size w w' := by
  have hv := h.val
  subst hv
  unfold ImgArg.val at *
  obtain ⟨N, hN⟩ : ∃ N, N = w.heap.size := ⟨_, rfl⟩
  have HN := Lib.hid hN
  rw [← hN]
  have te : (e != 0) = true := by simpa using he
  have hbe : Below w.heap.size w (w.alloc (.cells #[.int .i64 x.w, .int .i64 x.h, x.cu, x.qu, x.tu] 26)) := (Below.refl _ _).alloc (Nat.le_refl _) _
  clear hN he
  go_enter Try.func21, Try.ntmps21
  go_upto_region 1 with fail
  rw [← HN.out]
  refine wp_world (fun W => Blk W N #[.int .i64 x.w, .int .i64 x.h, x.cu, x.qu, x.tu] 26 ∧ IsImg W (.agg #[.int .i64 x.w, .int .i64 x.h, x.cu, x.qu, x.tu]) x ∧ Below N w W) ⟨Blk.new' _ _ _ HN.out, h.below hbe, by rw [HN.out]; exact hbe⟩ ?_
  clear h hbe
  rintro W ⟨bN, hI, hB⟩
  have hrW := hr W hI
  go_wp2_with (first | (refine wpList_load_row rfl 26 _ rfl N rfl 26 _ _ _ bN Try.underlying26 rfl (by kernel_rfl) ?_) | (go_at_call 20; refine hrW.mono ?_; rintro r w1 ⟨rfl, hb1⟩; have hC := hB.trans (hb1.mono (Nat.le_of_lt bN.lt))))
  go_ret2
  exact ⟨rfl, hC⟩
theorem img_size_ok (v : Value) (x : ImgArg) (w : World) (h : IsImg w v x) (hf : FewOk x)
    (hr : ∀ W, IsImg W v x → Calls Try.prog 20 #[v] W fun r w' => r = .returned (.int .i64 0) ∧ Below W.heap.size W w') :
    Calls Try.prog 21 #[v] w fun r w' => r = .returned (.tuple #[.int .i64 (sizeN x : Nat), .int .i64 0]) ∧ Below w.heap.size w w' := by
  obtain ⟨f1, f2, f3, f4, f5⟩ := hf
  obtain ⟨R, hR⟩ : ∃ R, sizeN x = R := ⟨_, rfl⟩
  rw [hR]
  unfold sizeN at hR
  obtain ⟨bf, hbf⟩ : ∃ bf, blN x = bf := ⟨_, rfl⟩
  obtain ⟨tf, htf⟩ : ∃ tf, tlN x = tf := ⟨_, rfl⟩
  rw [hbf, htf] at hR
  have hb : ∀ k, (hk : k < x.cs.length) → bf k = (x.cs[k]'hk).bs.length := fun k hk => by rw [← hbf]; unfold blN; rw [comp_getD hk]
  have ht : ∀ k, (hk : k < x.ts.length) → tf k = (x.ts[k]'hk).body.size := fun k hk => by rw [← htf]; unfold tlN; simp [List.getD_eq_getElem?_getD, hk]
  clear hbf htf
  have hv := h.val
  obtain ⟨xw, xh, cu, qu, tu, cs, qs, ts⟩ := x
  simp only [ImgArg.val] at *
  subst hv
  obtain ⟨cb, ccap, rfl⟩ : ∃ b cap, cu = .slice b cs.length cap := h.cs.len
  obtain ⟨qb, qcap, rfl⟩ : ∃ b cap, qu = .slice b qs.length cap := h.qs.len
  obtain ⟨tb, tcap, rfl⟩ : ∃ b cap, tu = .slice b ts.length cap := h.ts.len
  obtain ⟨N, hN⟩ : ∃ N, N = w.heap.size := ⟨_, rfl⟩
  have HN := Lib.hid hN
  rw [← hN]
  have HR := Lib.hid hR
  have HB := Lib.hid hb
  have HT := Lib.hid ht
  have F4 := Lib.hid f4
  have F5 := Lib.hid f5
  have hbe : Below w.heap.size w (w.alloc (.cells #[.int .i64 xw, .int .i64 xh, .slice cb cs.length ccap, .slice qb qs.length qcap, .slice tb ts.length tcap] 26)) := (Below.refl _ _).alloc (Nat.le_refl _) _
  clear hN hR hb ht f4 f5
  go_enter Try.func21, Try.ntmps21
  go_upto_region 1 with fail
  rw [← HN.out]
  refine wp_world (fun W => Blk W N #[.int .i64 xw, .int .i64 xh, .slice cb cs.length ccap, .slice qb qs.length qcap, .slice tb ts.length tcap] 26 ∧ IsImg W (.agg #[.int .i64 xw, .int .i64 xh, .slice cb cs.length ccap, .slice qb qs.length qcap, .slice tb ts.length tcap]) _ ∧ Below N w W) ⟨Blk.new' _ _ _ HN.out, h.below hbe, by rw [HN.out]; exact hbe⟩ ?_
  clear h hbe
  rintro W ⟨bN, hI, hB⟩
  have hrW := hr W hI
  go_upto_region 4 with (first | (refine wpList_load_row rfl 26 _ rfl N rfl 26 _ _ _ bN Try.underlying26 rfl (by kernel_rfl) ?_) | (go_at_call 20; refine hrW.mono ?_; rintro r w1 ⟨rfl, hb1⟩))
  have hcs := (hI.below hb1).cs
  have hts := (hI.below hb1).ts
  have hC := hB.trans (hb1.mono (Nat.le_of_lt bN.lt))
  have bN1 := bN.below hb1 bN.lt
  have hNW : N < w1.heap.size := bN1.lt
  simp only at hcs hts
  clear hrW hr hI bN hB hb1
  have q2 := bN1.cell 2
  have q3 := bN1.cell 3
  simp only [List.getElem?_toArray, List.getElem?_cons_zero, List.getElem?_cons_succ] at q2 q3
  go_wp2
  clear q2 q3
  go_loopw [5, 28] (fun nv iv wr => ∃ (m i : Nat), nv = .int .i64 m ∧ iv = .int .i64 i ∧ i ≤ cs.length ∧ m ≤ 10000 + 2560000 * i ∧ Hid (m = 64 + 16 * cs.length + 132 * qs.length + 128 * accN bf i) ∧ Below w1.heap.size w1 wr) (fun _ iv _ => cs.length - (intOf iv).toNat)
  case atStart => exact ⟨64 + 16 * cs.length + 132 * qs.length, 0, by go_num, rfl, Nat.zero_le _, by omega, Lib.hid (by simp [accN]), Below.refl _ _⟩
  case round =>
    obtain ⟨m, i, rfl, rfl, hi, hm, HM, hD⟩ := hrel
    by_cases hlt : i < cs.length
    · have tl : decide (i < cs.length) = true := by simpa using hlt
      have hcs2 := hcs.below hD
      obtain ⟨a, rfl, c0, c1, c2, c3, c4, c5, c6⟩ := hcs2.at hlt
      obtain ⟨ub, ucap, hu, -⟩ := (hcs2.ok _ (List.getElem_mem hlt)).ar.len
      rw [hu] at c6
      have j0 : (0 : Int) ≤ (i : Int) := by omega
      have j1 : (i : Int) < (cs.length : Int) := by omega
      have hz3 := F4.out _ (List.getElem_mem hlt)
      have hbz := HB.out i hlt
      generalize (cs[i]'hlt).bs.length = z at *
      generalize (cs[i]'hlt).id = x0 at *
      generalize (cs[i]'hlt).h = x1 at *
      generalize (cs[i]'hlt).v = x2 at *
      generalize (cs[i]'hlt).q = x3 at *
      generalize (cs[i]'hlt).c = x4 at *
      generalize (cs[i]'hlt).r = x5 at *
      have HBZ := Lib.hid hbz
      clear hu hbz
      go_upto_region 8 with fail
      obtain ⟨M, hM⟩ : ∃ M, M = wr.heap.size := ⟨_, rfl⟩
      have hsz := hD.size
      refine wp_world (fun W => Blk W M #[.int .i64 x0, .int .i64 x1, .int .i64 x2, .int .i64 x3, .int .i64 x4, .int .i64 x5, .slice ub z ucap] 63 ∧ Below w1.heap.size w1 W) ⟨Blk.new' _ _ _ hM, hD.alloc hsz _⟩ ?_
      rw [← hM]
      clear hM hD c0 c1 c2 c3 c4 c5 c6 hsz hcs2
      rintro W2 ⟨bM, hD⟩
      have p6 : W2.cell? ⟨M, 6, none⟩ = some (.slice ub z ucap) := bM.cell 6
      go_wp2
      go_roundw
      case rel => exact ⟨m + 128 * z, i + 1, by go_num, by go_num, by omega, by omega, Lib.hid (by have h1 := HM.out; have h2 := HBZ.out; simp only [accN]; omega), hD⟩
      case measure => simp [intOf]; omega
    · have tl : decide (i < cs.length) = false := by simpa using hlt
      obtain rfl : i = cs.length := by omega
      have hm2 : m ≤ 52000000 := by omega
      have q4 : wr.cell? ⟨N, 4, none⟩ = some (.slice tb ts.length tcap) := (bN1.below hD hNW).cell 4
      go_wp2
      clear q4
      obtain ⟨wo, hwo⟩ : ∃ wo : World, wo = wr := ⟨_, rfl⟩
      subst hwo
      go_loopw [5, 43] (fun nv jv wq => ∃ (k j : Nat), nv = .int .i64 k ∧ jv = .int .i64 j ∧ j ≤ ts.length ∧ k ≤ 53000000 + 140004 * j ∧ Hid (k = 64 + 16 * cs.length + 128 * accN bf cs.length + 132 * qs.length + 4 * j + accN tf j) ∧ Below w1.heap.size w1 wq) (fun _ jv _ => ts.length - (intOf jv).toNat)
      case atStart => exact ⟨m, 0, rfl, rfl, Nat.zero_le _, by omega, Lib.hid (by have h1 := HM.out; simp only [accN]; omega), hD⟩
      case round =>
        clear hD
        obtain ⟨k, j, rfl, rfl, hj, hk, HK, hD⟩ := hrel
        by_cases hlt2 : j < ts.length
        · have tl2 : decide (j < ts.length) = true := by simpa using hlt2
          obtain ⟨a, rfl, c0, c1⟩ := (hts.below hD).at hlt2
          have j0 : (0 : Int) ≤ (j : Int) := by omega
          have j1 : (j : Int) < (ts.length : Int) := by omega
          have hz5 := F5.out _ (List.getElem_mem hlt2)
          have htz := HT.out j hlt2
          generalize (ts[j]'hlt2).body = sb at *
          generalize (ts[j]'hlt2).kind = kd at *
          have HTZ := Lib.hid htz
          clear htz
          go_upto_region 13 with fail
          obtain ⟨M, hM⟩ : ∃ M, M = wr.heap.size := ⟨_, rfl⟩
          have hsz := hD.size
          refine wp_world (fun W => Blk W M #[.int .i64 kd, .string sb] 104 ∧ Below w1.heap.size w1 W) ⟨Blk.new' _ _ _ hM, hD.alloc hsz _⟩ ?_
          rw [← hM]
          clear hM hD c0 c1 hsz
          rintro W2 ⟨bM, hD⟩
          have p1 : W2.cell? ⟨M, 1, none⟩ = some (.string sb) := bM.cell 1
          go_wp2
          go_roundw
          case rel => exact ⟨k + (4 + sb.size), j + 1, by go_num, by go_num, by omega, by omega, Lib.hid (by have h1 := HK.out; have h2 := HTZ.out; simp only [accN]; omega), hD⟩
          case measure => simp [intOf]; omega
        · have tl2 : decide (j < ts.length) = false := by simpa using hlt2
          obtain rfl : j = ts.length := by omega
          obtain rfl : k = R := by rw [← HR.out]; exact HK.out
          go_wp2
          go_ret2
          exact ⟨rfl, hC.trans (hD.mono (Nat.le_of_lt hNW))⟩
end Go.Proofs.Ytgmhhocpdfdplaa
