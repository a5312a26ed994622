/- Package image: test, tags and the closure it hands to each. -/
import Derived.Test.YtgmhhocpdfdplaaImg
namespace Go.Proofs.Ytgmhhocpdfdplaa
open Go.RowKit
set_option maxRecDepth 100000
set_option maxHeartbeats 4000000
/-- The first error of the places from i on, f of them. -/
def firstE (e : Nat → Int) : Nat → Nat → Int
  | 0, _ => 0
  | f + 1, i => if e i = 0 then firstE e f (i + 1) else e i
theorem firstE_zero (e : Nat → Int) (i : Nat) : firstE e 0 i = 0 := rfl
theorem firstE_go (e : Nat → Int) (f i : Nat) (h : e i = 0) : firstE e (f + 1) i = firstE e f (i + 1) := by simp only [firstE, if_pos h]
theorem firstE_stop (e : Nat → Int) (f i : Nat) (h : ¬ e i = 0) : firstE e (f + 1) i = e i := by simp only [firstE, if_neg h]
theorem img_test (b : Bool) (e : Int) (w : World) : Calls Try.prog 110 #[.bool b, .int .i64 e] w fun r w' => r = .returned (.int .i64 (if b = true then 0 else e)) ∧ w = w' := by
  cases b
  all_goals
    go_enter Try.func110, Try.ntmps110
    go_wp2
    go_ret
    exact ⟨rfl, rfl⟩
/-- A tag's error. -/
def tagE (t : TagArg) : Int := if t.kind ≠ 254 ∧ (t.kind < 224 ∨ 239 < t.kind) then 6 else if t.body.size ≤ 65533 then 0 else 4
theorem img_tags1 (i : Int) (t : TagArg) (w : World) : Calls Try.prog 124 #[.int .i64 i, .agg #[.int .i64 t.kind, .string t.body]] w fun r w' => r = .returned (.int .i64 (tagE t)) ∧ Below w.heap.size w w' := by
  obtain ⟨k, s⟩ := t
  unfold tagE
  simp only
  obtain ⟨N, hN⟩ : ∃ N, N = w.heap.size := ⟨_, rfl⟩
  have HN := Lib.hid hN
  rw [← hN]
  clear hN
  by_cases h1 : k ≠ 254 ∧ (k < 224 ∨ 239 < k)
  · rw [if_pos h1]
    have ts : (k != 254) = true := by simpa using h1.1
    have tt : decide (k < 224) = true ∨ (decide (k < 224) = false ∧ decide (239 < k) = true) := by simp only [decide_eq_true_eq, decide_eq_false_iff_not]; omega
    clear h1
    rcases tt with t1 | ⟨t1, t2⟩
    all_goals
      go_enter Try.func124, Try.ntmps124
      go_upto_region 1 with fail
      rw [← HN.out]
      refine wp_world (fun W => Blk W N #[.int .i64 k, .string s] 104 ∧ Below N w W) ⟨Blk.new' _ _ _ HN.out, (Below.refl _ _).alloc (by rw [HN.out]; exact Nat.le_refl _) _⟩ ?_
      rintro W ⟨bN, hB⟩
      have q0 := bN.cell 0
      have q1 := bN.cell 1
      go_wp2
      go_ret
      exact ⟨rfl, hB⟩
  · rw [if_neg h1]
    have tt : (k != 254) = false ∨ ((k != 254) = true ∧ decide (k < 224) = false ∧ decide (239 < k) = false) := by
      by_cases hk : k = 254
      · exact .inl (by simpa using hk)
      · exact .inr ⟨by simpa using hk, by simp; omega, by simp; omega⟩
    clear h1
    by_cases h2 : s.size ≤ 65533
    · rw [if_pos h2]
      have t2 : decide ((s.size : Int) ≤ 65533) = true := by simp; omega
      have hte := fun W => img_test true 4 W
      rw [if_pos rfl] at hte
      clear h2
      rcases tt with t1 | ⟨t1, t3, t4⟩
      all_goals
        go_enter Try.func124, Try.ntmps124
        go_upto_region 1 with fail
        rw [← HN.out]
        refine wp_world (fun W => Blk W N #[.int .i64 k, .string s] 104 ∧ Below N w W) ⟨Blk.new' _ _ _ HN.out, (Below.refl _ _).alloc (by rw [HN.out]; exact Nat.le_refl _) _⟩ ?_
        rintro W ⟨bN, hB⟩
        have q0 := bN.cell 0
        have q1 := bN.cell 1
        go_wp2_with (go_at_call 110; refine (hte _).mono ?_; rintro r w1 ⟨rfl, rfl⟩)
        go_ret
        exact ⟨rfl, hB⟩
    · rw [if_neg h2]
      have t2 : decide ((s.size : Int) ≤ 65533) = false := by simp; omega
      have hte := fun W => img_test false 4 W
      rw [if_neg (by decide)] at hte
      clear h2
      rcases tt with t1 | ⟨t1, t3, t4⟩
      all_goals
        go_enter Try.func124, Try.ntmps124
        go_upto_region 1 with fail
        rw [← HN.out]
        refine wp_world (fun W => Blk W N #[.int .i64 k, .string s] 104 ∧ Below N w W) ⟨Blk.new' _ _ _ HN.out, (Below.refl _ _).alloc (by rw [HN.out]; exact Nat.le_refl _) _⟩ ?_
        rintro W ⟨bN, hB⟩
        have q0 := bN.cell 0
        have q1 := bN.cell 1
        go_wp2_with (go_at_call 110; refine (hte _).mono ?_; rintro r w1 ⟨rfl, rfl⟩)
        go_ret
        exact ⟨rfl, hB⟩
theorem img_each_tag (tb : Option Addr) (cap : Nat) (ts : List TagArg) (hl : ts.length ≤ 100) (w : World) (h : IsTags w (.slice tb ts.length cap) ts) :
    Calls Try.prog 123 #[.slice tb ts.length cap, .func (.func 124) #[] #[]] w fun r w' => r = .returned (.int .i64 (firstE (fun i => tagE (ts.getD i ⟨0, ⟨#[]⟩⟩)) ts.length 0)) ∧ Below w.heap.size w w' := by
  obtain ⟨e, he⟩ : ∃ e : Nat → Int, (fun i => tagE (ts.getD i ⟨0, ⟨#[]⟩⟩)) = e := ⟨_, rfl⟩
  rw [he]
  obtain ⟨T, hT⟩ : ∃ T, firstE e ts.length 0 = T := ⟨_, rfl⟩
  rw [hT]
  have HT := Lib.hid hT
  have HE := Lib.hid he
  clear hT he
  go_enter Try.func123, Try.ntmps123
  go_wp2
  go_loopw [10] (fun iv wr => ∃ i : Nat, iv = .int .i64 i ∧ i ≤ ts.length ∧ firstE e (ts.length - i) i = T ∧ Below w.heap.size w wr) (fun iv _ => ts.length - (intOf iv).toNat)
  case atStart => exact ⟨0, rfl, Nat.zero_le _, HT.out, Below.refl _ _⟩
  case round =>
    obtain ⟨i, rfl, hi, hf, hB⟩ := hrel
    by_cases hlt : i < ts.length
    · have tl : decide (i < ts.length) = true := by simpa using hlt
      obtain ⟨a, rfl, c0, c1⟩ := (h.below hB).at hlt
      have j0 : (0 : Int) ≤ (i : Int) := by omega
      have j1 : (i : Int) < (ts.length : Int) := by omega
      have hei : e i = tagE (ts[i]'hlt) := by rw [← HE.out]; simp [List.getD_eq_getElem?_getD, hlt]
      have hc := fun W => img_tags1 (i : Int) (ts[i]'hlt) W
      rw [← hei] at hc
      rw [show ts.length - i = ts.length - (i + 1) + 1 by omega] at hf
      have HF := Lib.hid hf
      clear hf hei
      obtain ⟨k, hk⟩ : ∃ k, (ts[i]'hlt).kind = k := ⟨_, rfl⟩
      obtain ⟨s, hs⟩ : ∃ s, (ts[i]'hlt).body = s := ⟨_, rfl⟩
      rw [hk, hs] at hc
      rw [hk] at c0
      rw [hs] at c1
      clear hk hs
      go_upto_region 4 with fail
      obtain ⟨M, hM⟩ : ∃ M, M = wr.heap.size := ⟨_, rfl⟩
      have hsz := hB.size
      refine wp_world (fun W => Blk W M #[.int .i64 k, .string s] 104 ∧ Below w.heap.size w W) ⟨Blk.new' _ _ _ hM, hB.alloc hsz _⟩ ?_
      rw [← hM]
      clear hM hB c0 c1 hsz
      rintro W ⟨bM, hB⟩
      by_cases he0 : e i = 0
      · have hf := HF.out
        rw [firstE_go e _ i he0] at hf
        have HF2 := Lib.hid hf
        rw [he0] at hc
        clear hf he0 HF
        go_wp2_with (first | (refine wpList_load_row rfl 104 _ rfl M rfl 104 _ _ _ bM Try.underlying104 rfl (by kernel_rfl) ?_) | (go_at_call 124; refine (hc _).mono ?_; rintro r w1 ⟨rfl, hb1⟩; replace hB := hB.trans (hb1.mono hB.size)))
        go_roundw
        case rel => exact ⟨i + 1, by go_num, by omega, HF2.out, hB⟩
        case measure => simp [intOf]; omega
      · have hf := HF.out
        rw [firstE_stop e _ i he0] at hf
        rw [hf] at hc he0
        have tn : (T != 0) = true := by simpa using he0
        clear hf he0 HF
        go_wp2_with (first | (refine wpList_load_row rfl 104 _ rfl M rfl 104 _ _ _ bM Try.underlying104 rfl (by kernel_rfl) ?_) | (go_at_call 124; refine (hc _).mono ?_; rintro r w1 ⟨rfl, hb1⟩; replace hB := hB.trans (hb1.mono hB.size)))
        go_ret
        exact ⟨rfl, hB⟩
    · have tl : decide (i < ts.length) = false := by simpa using hlt
      rw [show ts.length - i = 0 by omega] at hf
      obtain rfl : T = 0 := hf.symm
      go_wp2
      go_ret
      exact ⟨rfl, hB⟩
/-- The tags' error. -/
def tagsE (ts : List TagArg) : Int := if 64 < ts.length then 12 else firstE (fun i => tagE (ts.getD i ⟨0, ⟨#[]⟩⟩)) ts.length 0
theorem img_tags (v : Value) (x : ImgArg) (w : World) (h : IsImg w v x) (hf : FewOk x) :
    Calls Try.prog 63 #[v] w fun r w' => r = .returned (.int .i64 (tagsE x.ts)) ∧ Below w.heap.size w w' := by
  obtain ⟨rfl, -, -, -, -, hts⟩ := h
  have hl := hf.t100
  obtain ⟨xw, xh, cu, qu, tu, cs, qs, ts⟩ := x
  simp only [ImgArg.val] at *
  obtain ⟨tb, tcap, rfl⟩ := hts.len
  have hbe : Below w.heap.size w (w.alloc (.cells #[.int .i64 xw, .int .i64 xh, cu, qu, .slice tb ts.length tcap] 26)) := (Below.refl _ _).alloc (Nat.le_refl _) _
  obtain ⟨N, hN⟩ : ∃ N, N = w.heap.size := ⟨_, rfl⟩
  have HN := Lib.hid hN
  rw [← hN]
  clear hf hN
  obtain ⟨R, hR⟩ : ∃ R, tagsE ts = R := ⟨_, rfl⟩
  rw [hR]
  have HR := Lib.hid hR
  clear hR
  go_enter Try.func63, Try.ntmps63
  go_upto_region 1 with fail
  refine wp_world (fun W => Blk W N #[.int .i64 xw, .int .i64 xh, cu, qu, .slice tb ts.length tcap] 26 ∧ IsTags W (.slice tb ts.length tcap) ts ∧ Below N w W) ⟨Blk.new' _ _ _ HN.out, hts.below hbe, by rw [HN.out]; exact hbe⟩ ?_
  rw [← HN.out]
  clear hts hbe
  rintro W ⟨bN, hts, hB⟩
  have q4 : W.cell? ⟨N, 4, none⟩ = some (.slice tb ts.length tcap) := bN.cell 4
  have hea := img_each_tag tb tcap ts hl W hts
  by_cases h64 : 64 < ts.length
  · have t1 : decide ((64 : Int) < (ts.length : Int)) = true := by simp; omega
    obtain rfl : R = 12 := by rw [← HR.out]; unfold tagsE; rw [if_pos h64]
    clear HR hea
    go_wp2
    go_ret
    exact ⟨rfl, hB⟩
  · have t1 : decide ((64 : Int) < (ts.length : Int)) = false := by simp; omega
    have hr : firstE (fun i => tagE (ts.getD i ⟨0, ⟨#[]⟩⟩)) ts.length 0 = R := by rw [← HR.out]; unfold tagsE; rw [if_neg h64]
    rw [hr] at hea
    clear hr HR
    go_wp2_with (go_at_call 123; refine hea.mono ?_; rintro r w1 ⟨rfl, hb1⟩; have hC := hB.trans (hb1.mono (Nat.le_of_lt bN.lt)))
    go_ret
    exact ⟨rfl, hC⟩
end Go.Proofs.Ytgmhhocpdfdplaa
