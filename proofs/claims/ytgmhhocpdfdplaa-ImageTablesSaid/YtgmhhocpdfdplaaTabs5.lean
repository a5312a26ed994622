/- Package image: tables. -/
import Derived.Test.YtgmhhocpdfdplaaTabs4
import Derived.Laws.EntriesVeiled
namespace Go.Proofs.Ytgmhhocpdfdplaa
open Go.RowKit
set_option maxRecDepth 100000
set_option maxHeartbeats 4000000
theorem tabQ_len {w : World} {v : Value} {qs : List QuantArg} (h : IsQuants w v qs) (y : Int) : (tabQ qs y).length = 64 := by
  unfold tabQ
  split
  · simp
  · rename_i hn
    unfold tabI at *
    rcases idxF_bd (fun k => decide ((qs.getD k noQuant).at_ = y)) qs.length 0 with h0 | ⟨k, h0, hk⟩
    · rw [h0] at hn; omega
    · rw [h0, Int.toNat_natCast, quant_getD (by omega)]
      exact (h.ok _ (List.getElem_mem _)).l64
/-- Is there no table of a component's place? -/
def compTE (qs : List QuantArg) (x : CompArg) : Int := if 0 ≤ tabI qs x.q then 0 else 5
theorem img_tables3 (N : Nat) (x : ImgArg) (hlq : x.qs.length ≤ 1000000) (i : Int) (c : CompArg) (hu : ∃ ub un uc, c.u = .slice ub un uc) (w : World) (bN : Blk w N #[.int .i64 x.w, .int .i64 x.h, x.cu, x.qu, x.tu] 26) (h : IsImg w x.val x) :
    Calls Try.prog 116 #[.int .i64 i, .agg #[.int .i64 c.id, .int .i64 c.h, .int .i64 c.v, .int .i64 c.q, .int .i64 c.c, .int .i64 c.r, c.u], .pointer (some ⟨N, 0, none⟩)] w fun r w' => r = .returned (.int .i64 (compTE x.qs c)) ∧ Below w.heap.size w w' := by
  obtain ⟨K, hK⟩ : ∃ K, K = w.heap.size := ⟨_, rfl⟩
  have HK := Lib.hid hK
  rw [← hK]
  obtain ⟨ub, un, uc, hu⟩ := hu
  rw [hu]
  unfold compTE
  have htl := tabQ_len h.qs c.q
  generalize c.id = x0 at *
  generalize c.h = x1 at *
  generalize c.v = x2 at *
  generalize c.q = y at *
  generalize c.c = x4 at *
  generalize c.r = x5 at *
  have htb := fun W h => img_table x.val x y hlq W h
  have hte := fun (b : Bool) W => img_test b 5 W
  have hbe : Below w.heap.size w (w.alloc (.cells #[.int .i64 x0, .int .i64 x1, .int .i64 x2, .int .i64 y, .int .i64 x4, .int .i64 x5, .slice ub un uc] 63)) := (Below.refl _ _).alloc (Nat.le_refl _) _
  generalize tabI x.qs y = r at *
  generalize tabQ x.qs y = tq at *
  have hd : (decide (0 ≤ r) = true ∧ (if 0 ≤ r then (0 : Int) else 5) = 0) ∨ (decide (0 ≤ r) = false ∧ (if 0 ≤ r then (0 : Int) else 5) = 5) := by
    by_cases h0 : 0 ≤ r
    · exact .inl ⟨decide_eq_true h0, if_pos h0⟩
    · exact .inr ⟨decide_eq_false h0, if_neg h0⟩
  obtain ⟨R, hR⟩ : ∃ R, (if 0 ≤ r then (0 : Int) else 5) = R := ⟨_, rfl⟩
  rw [hR] at hd ⊢
  unfold ImgArg.val at *
  clear hK hR hu
  rcases hd with ⟨hd, rfl⟩ | ⟨hd, rfl⟩
  all_goals
    rw [hd] at htb
    clear hd
    go_enter Try.func116, Try.ntmps116
    go_upto_region 1 with fail
    rw [← HK.out]
    refine wp_world (fun W => Blk W K #[.int .i64 x0, .int .i64 x1, .int .i64 x2, .int .i64 y, .int .i64 x4, .int .i64 x5, .slice ub un uc] 63 ∧ Blk W N #[.int .i64 x.w, .int .i64 x.h, x.cu, x.qu, x.tu] 26 ∧ IsImg W (.agg #[.int .i64 x.w, .int .i64 x.h, x.cu, x.qu, x.tu]) x ∧ Below K w W) ⟨Blk.new' _ _ _ HK.out, bN.below hbe bN.lt, h.below hbe, by rw [HK.out]; exact hbe⟩ ?_
    rintro W ⟨bK, bN2, hI, hB⟩
    have k3 : W.cell? ⟨K, 3, none⟩ = some (.int .i64 y) := bK.cell 3
    go_upto_region 2 with (first | (refine wpList_load_row rfl 26 _ rfl N rfl 26 _ _ _ bN2 Try.underlying26 rfl (by kernel_rfl) ?_) | (go_at_call 24; refine (htb _ hI).mono ?_; rintro e w1 ⟨rfl, hb1⟩; obtain ⟨M, hM⟩ : ∃ M, M = w1.heap.size := ⟨_, rfl⟩; have HM := Lib.hid hM; clear hM) | (refine Great.wpList_runTo rfl _ rfl _ _ (run_alloc_tab _ rfl) ?_) | (refine wpList_store_row rfl 35 _ _ rfl M _ (by rw [HM.out]; rfl) rfl 35 _ (Blk.new' _ _ _ HM.out) (by rw [ints_size, htl]; kernel_rfl) (by rw [ints_size, ints_size, htl]; rfl) (ints_one _ _) ?_))
    have hC := hB.trans (hb1.mono (Nat.le_of_lt bK.lt))
    have hD : Below K w ((w1.alloc (.cells (ints .u16 (List.replicate 64 0)) 35)).setRow M (ints .u16 tq)) := Below.setRow (hC.alloc (Nat.le_trans (Nat.le_of_lt bK.lt) hb1.size) _) (by rw [HM.out]; exact Nat.le_trans (Nat.le_of_lt bK.lt) hb1.size) _
    refine wp_world (fun W => Below K w W) hD ?_
    clear hD hC hb1
    rintro W2 hD
    go_wp2_with (go_at_call 110; refine (hte _ _).mono ?_; rintro r w2 ⟨rfl, rfl⟩)
    go_ret
    exact ⟨rfl, hD⟩
def quantsE (x : ImgArg) : Int := firstE (fun i => quantE x.cs x.qs i (x.qs.getD i noQuant)) x.qs.length 0
def compsTE (x : ImgArg) : Int := firstE (fun i => compTE x.qs (x.cs.getD i noComp)) x.cs.length 0
/-- The tables' error. -/
def tablesE (x : ImgArg) : Int := if quantsE x = 0 then compsTE x else quantsE x
theorem img_tables (v : Value) (x : ImgArg) (w : World) (h : IsImg w v x) (hf : FewOk x) :
    Calls Try.prog 60 #[v] w fun r w' => r = .returned (.int .i64 (tablesE x)) ∧ Below w.heap.size w w' := by
  have hv := h.val
  subst hv
  have hlc := hf.c20
  have hlq := hf.q20
  obtain ⟨cb, ccap, hcu⟩ := h.cs.len
  obtain ⟨qb, qcap, hqu⟩ := h.qs.len
  obtain ⟨N, hN⟩ : ∃ N, N = w.heap.size := ⟨_, rfl⟩
  have HN := Lib.hid hN
  rw [← hN]
  have hbe : Below w.heap.size w (w.alloc (.cells #[.int .i64 x.w, .int .i64 x.h, x.cu, x.qu, x.tu] 26)) := (Below.refl _ _).alloc (Nat.le_refl _) _
  obtain ⟨R, hR⟩ : ∃ R, tablesE x = R := ⟨_, rfl⟩
  rw [hR]
  have HR := Lib.hid hR
  have hqE : ∀ W, Blk W N #[.int .i64 x.w, .int .i64 x.h, x.cu, x.qu, x.tu] 26 → Blk W (N + 1) #[.func (.func 111) #[] #[.pointer (some ⟨N, 0, none⟩)]] 159 → IsImg W x.val x → Calls Try.prog 113 #[x.qu, .func (.func 114) #[] #[.pointer (some ⟨N, 0, none⟩), .pointer (some ⟨N + 1, 0, none⟩)]] W fun r w' => r = .returned (.int .i64 (quantsE x)) ∧ Below W.heap.size W w' := by
    intro W bN bU hI
    rw [hqu]
    have hq := hI.qs
    have hc := hI.cs
    rw [hqu] at hq
    rw [hcu] at hc
    rw [hcu, hqu] at bN
    refine each_quants N (N + 1) qb qcap x.qs (by omega) _ W hq (fun i hi W' hb => ?_)
    simp only [quant_getD hi]
    exact img_tables2 N (N + 1) x.w x.h x.tu cb qb ccap qcap x.cs x.qs (by omega) (by omega) i hi W' (bN.below hb bN.lt) (bU.below hb bU.lt) (hc.below hb) (hq.below hb)
  have hcE : ∀ W, Blk W N #[.int .i64 x.w, .int .i64 x.h, x.cu, x.qu, x.tu] 26 → IsImg W x.val x → Calls Try.prog 106 #[x.cu, .func (.func 116) #[] #[.pointer (some ⟨N, 0, none⟩)]] W fun r w' => r = .returned (.int .i64 (compsTE x)) ∧ Below W.heap.size W w' := by
    intro W bN hI
    have hc := hI.cs
    rw [hcu] at hc ⊢
    refine each_tables N cb ccap x.cs hlc _ W hc (fun i hi W' hb => ?_)
    simp only [comp_getD hi]
    refine img_tables3 N x (by omega) i (x.cs[i]'hi) ?_ W' (bN.below hb bN.lt) (hI.below hb)
    obtain ⟨ub, uc, hu, _⟩ := (hc.ok _ (List.getElem_mem hi)).ar.len
    exact ⟨ub, _, uc, hu⟩
  clear hN hR hcu hqu
  unfold ImgArg.val at *
  go_enter Try.func60, Try.ntmps60
  go_upto_region 1 with fail
  rw [← HN.out]
  refine wp_world (fun W => W.heap.size = N + 1 ∧ Blk W N #[.int .i64 x.w, .int .i64 x.h, x.cu, x.qu, x.tu] 26 ∧ IsImg W (.agg #[.int .i64 x.w, .int .i64 x.h, x.cu, x.qu, x.tu]) x ∧ Below N w W) ⟨by simp [HN.out], Blk.new' _ _ _ HN.out, h.below hbe, by rw [HN.out]; exact hbe⟩ ?_
  clear h hbe
  rintro W ⟨hsz, bN, hI, hB⟩
  go_upto_region 2 with fail
  have bU0 : Blk (W.alloc (.cells #[.func (.func 111) #[] #[.pointer (some ⟨N, 0, none⟩)]] 159)) (N + 1) #[.func (.func 111) #[] #[.pointer (some ⟨N, 0, none⟩)]] 159 := Blk.new' W _ _ hsz.symm
  have hbw : Below W.heap.size W (W.alloc (.cells #[.func (.func 111) #[] #[.pointer (some ⟨N, 0, none⟩)]] 159)) := (Below.refl _ _).alloc (Nat.le_refl _) _
  refine wp_world (fun W => Blk W N #[.int .i64 x.w, .int .i64 x.h, x.cu, x.qu, x.tu] 26 ∧ Blk W (N + 1) #[.func (.func 111) #[] #[.pointer (some ⟨N, 0, none⟩)]] 159 ∧ IsImg W (.agg #[.int .i64 x.w, .int .i64 x.h, x.cu, x.qu, x.tu]) x ∧ Below N w W) ⟨bN.below hbw bN.lt, bU0, hI.below hbw, hB.trans (hbw.mono (by omega))⟩ ?_
  clear bN hI hB hbw bU0 hsz
  rintro W ⟨bN, bU, hI, hB⟩
  have q2 : W.cell? ⟨N, 2, none⟩ = some x.cu := bN.cell 2
  have q3 : W.cell? ⟨N, 3, none⟩ = some x.qu := bN.cell 3
  have hca := hqE W bN bU hI
  by_cases he : quantsE x = 0
  · have hr : compsTE x = R := by rw [← HR.out]; unfold tablesE; rw [if_pos he]
    rw [he] at hca
    rw [hr] at hcE
    clear he hr HR hqE
    go_upto_region 3 with (go_at_call 113; refine hca.mono ?_; rintro r w1 ⟨rfl, hb1⟩)
    have bN1 := bN.below hb1 bN.lt
    have q21 : w1.cell? ⟨N, 2, none⟩ = some x.cu := bN1.cell 2
    have hcb := hcE w1 bN1 (hI.below hb1)
    have hC := hB.trans (hb1.mono (Nat.le_of_lt bN.lt))
    clear q2 q3 hca hcE
    go_wp2_with (go_at_call 106; refine hcb.mono ?_; rintro r w2 ⟨rfl, hb2⟩; have hD := hC.trans (hb2.mono (Nat.le_of_lt bN1.lt)))
    go_ret
    exact ⟨rfl, hD⟩
  · have hr : quantsE x = R := by rw [← HR.out]; unfold tablesE; rw [if_neg he]
    rw [hr] at hca he
    have te : (R != 0) = true := by simpa using he
    clear he hr HR hqE hcE
    go_wp2_with (go_at_call 113; refine hca.mono ?_; rintro r w1 ⟨rfl, hb1⟩; have hC := hB.trans (hb1.mono (Nat.le_of_lt bN.lt)))
    go_ret
    exact ⟨rfl, hC⟩
end Go.Proofs.Ytgmhhocpdfdplaa
