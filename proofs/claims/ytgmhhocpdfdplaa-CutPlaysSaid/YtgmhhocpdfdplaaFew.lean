/- The reference's Few of an image, whatever its bounds. -/
import Derived.Test.YtgmhhocpdfdplaaGC
namespace Go.Proofs.Ytgmhhocpdfdplaa
open Go.RowKit
set_option maxRecDepth 100000
set_option maxHeartbeats 4000000
theorem ref_few_any (nb nt : Int) (hb0 : 0 ≤ nb) (hb1 : nb ≤ 300) (ht0 : 0 ≤ nt) (ht1 : nt ≤ 140000) (v : Value) (x : ImgArg) (w : World) (h : IsImg w v x) :
    Calls Try.prog 54 #[v, .int .i64 nb, .int .i64 nt] w fun e w' => FewRes x e ∧ Below w.heap.size w w' := by
  obtain ⟨rfl, -, -, hcs, hqs, hts⟩ := h
  obtain ⟨xw, xh, cu, qu, tu, cs, qs, ts⟩ := x
  simp only [ImgArg.val] at *
  obtain ⟨cb, ccap, rfl⟩ := hcs.len
  obtain ⟨qb, qcap, rfl⟩ := hqs.len
  obtain ⟨tb, tcap, rfl⟩ := hts.len
  obtain ⟨N, hN⟩ : ∃ N, N = w.heap.size := ⟨_, rfl⟩
  have HN := Lib.hid hN
  rw [← hN]
  clear hN
  go_enter Try.func54, Try.ntmps54
  go_upto_region 1 with fail
  rw [← HN.out]
  have hbe : Below w.heap.size w (w.alloc (.cells #[.int .i64 xw, .int .i64 xh, .slice cb cs.length ccap, .slice qb qs.length qcap, .slice tb ts.length tcap] 26)) := (Below.refl _ _).alloc (Nat.le_refl _) _
  refine wp_world (fun W => Blk W N #[.int .i64 xw, .int .i64 xh, .slice cb cs.length ccap, .slice qb qs.length qcap, .slice tb ts.length tcap] 26 ∧ IsComps W (.slice cb cs.length ccap) cs ∧ IsTags W (.slice tb ts.length tcap) ts ∧ Below N w W) ⟨Blk.new' _ _ _ HN.out, hcs.below hbe, hts.below hbe, by rw [HN.out]; exact hbe⟩ ?_
  clear hcs hts hqs hbe
  rintro W ⟨bN, hcs, hts, hB⟩
  have q2 := bN.cell 2
  have q3 := bN.cell 3
  have q4 := bN.cell 4
  simp only [List.getElem?_toArray, List.getElem?_cons_zero, List.getElem?_cons_succ] at q2 q3 q4
  by_cases h1 : 20 < cs.length ∨ 20 < qs.length ∨ 100 < ts.length
  · have hcs : decide ((20 : Int) < (cs.length : Int)) = true ∨ (decide ((20 : Int) < (cs.length : Int)) = false ∧ decide ((20 : Int) < (qs.length : Int)) = true) ∨ (decide ((20 : Int) < (cs.length : Int)) = false ∧ decide ((20 : Int) < (qs.length : Int)) = false ∧ decide ((100 : Int) < (ts.length : Int)) = true) := by simp only [decide_eq_true_eq, decide_eq_false_iff_not]; omega
    clear h1
    rcases hcs with t1 | ⟨t1, t2⟩ | ⟨t1, t2, t3⟩
    all_goals
      go_wp2
      go_ret
      exact ⟨⟨false, rfl, fun h => by cases h⟩, hB⟩
  · have t1 : decide ((20 : Int) < (cs.length : Int)) = false := by simp; omega
    have t2 : decide ((20 : Int) < (qs.length : Int)) = false := by simp; omega
    have t3 : decide ((100 : Int) < (ts.length : Int)) = false := by simp; omega
    have l1 : cs.length ≤ 20 := by omega
    have l2 : qs.length ≤ 20 := by omega
    have l3 : ts.length ≤ 100 := by omega
    clear h1
    go_wp2
    go_loop [7, 8] (fun nv iv => ∃ (n i : Nat), nv = .int .i64 n ∧ iv = .int .i64 i ∧ i ≤ cs.length ∧ n ≤ 300 * i ∧ ∀ k, (hk : k < i) → (hl : k < cs.length) → (cs[k]'hl).bs.length ≤ 300) (fun _ iv => cs.length - (intOf iv).toNat)
    case atStart => exact ⟨0, 0, rfl, rfl, Nat.zero_le _, by omega, fun k hk => by omega⟩
    case round =>
      obtain ⟨n, i, rfl, rfl, hi, hn, hall⟩ := hrel
      have HALL := Lib.hid hall
      clear hall
      by_cases hlt : i < cs.length
      · have tl : decide (i < cs.length) = true := by simpa using hlt
        obtain ⟨a, rfl, c0, c1, c2, c3, c4, c5, c6⟩ := hcs.at hlt
        have hlen : ∃ ub ucap, (cs[i]'hlt).u = .slice ub (cs[i]'hlt).bs.length ucap := by
          obtain ⟨ub, ucap, hu, _⟩ := (hcs.ok _ (List.getElem_mem hlt)).ar.len
          exact ⟨ub, ucap, hu⟩
        obtain ⟨ub, ucap, hu⟩ := hlen
        rw [hu] at c6
        have j0 : (0 : Int) ≤ (i : Int) := by omega
        have j1 : (i : Int) < (cs.length : Int) := by omega
        have HE : ∀ z, (cs[i]'hlt).bs.length = z → Hid ((cs[i]'hlt).bs.length = z) := fun z h => Lib.hid h
        obtain ⟨z, hz⟩ : ∃ z, (cs[i]'hlt).bs.length = z := ⟨_, rfl⟩
        rw [hz] at c6
        have HZ := HE z hz
        clear HE hz hu c0 c1 c2 c3 c4 c5
        by_cases hz : (z : Int) ≤ nb
        · have tz : decide (nb < (z : Int)) = false := by simp; omega
          go_wp2
          go_round
          case rel => exact ⟨n + z, i + 1, by go_num, by go_num, by omega, by omega, fun k hk hl => by
            by_cases hki : k = i
            · subst hki; rw [HZ.out]; omega
            · exact HALL.out k (by omega) hl⟩
          case measure => simp [intOf]; omega
        · have tz : decide (nb < (z : Int)) = true := by simp; omega
          go_wp2
          go_ret
          exact ⟨⟨false, rfl, fun h => by cases h⟩, hB⟩
      · have tl : decide (i < cs.length) = false := by simpa using hlt
        have hb3 : ∀ c ∈ cs, c.bs.length ≤ 300 := by
          intro c hc
          obtain ⟨k, hk, rfl⟩ := List.getElem_of_mem hc
          exact HALL.out k (by omega) hk
        have HB3 := Lib.hid hb3
        have hnn : n ≤ 6000 := by omega
        clear hb3 HALL
        go_wp2
        go_loop [9, 10] (fun kv iv => ∃ (m j : Nat), kv = .int .i64 m ∧ iv = .int .i64 j ∧ j ≤ ts.length ∧ m ≤ 140000 * j ∧ ∀ k, (hk : k < j) → (hl : k < ts.length) → (ts[k]'hl).body.size ≤ 140000) (fun _ iv => ts.length - (intOf iv).toNat)
        case atStart => exact ⟨0, 0, rfl, rfl, Nat.zero_le _, by omega, fun k hk => by omega⟩
        case round =>
          obtain ⟨m, j, rfl, rfl, hj, hm, hall⟩ := hrel
          have HALL := Lib.hid hall
          clear hall
          by_cases hlt2 : j < ts.length
          · have tl2 : decide (j < ts.length) = true := by simpa using hlt2
            obtain ⟨a, rfl, c0, c1⟩ := hts.at hlt2
            have j0 : (0 : Int) ≤ (j : Int) := by omega
            have j1 : (j : Int) < (ts.length : Int) := by omega
            obtain ⟨sb, hsb⟩ : ∃ sb, (ts[j]'hlt2).body = sb := ⟨_, rfl⟩
            rw [hsb] at c1
            have HSB := Lib.hid hsb
            clear hsb c0
            by_cases hz : (sb.size : Int) ≤ nt
            · have tz : decide (nt < (sb.size : Int)) = false := by simp; omega
              go_wp2
              go_round
              case rel => exact ⟨m + sb.size, j + 1, by go_num, by go_num, by omega, by omega, fun k hk hl => by
                by_cases hki : k = j
                · subst hki; rw [HSB.out]; omega
                · exact HALL.out k (by omega) hl⟩
              case measure => simp [intOf]; omega
            · have tz : decide (nt < (sb.size : Int)) = true := by simp; omega
              go_wp2
              go_ret
              exact ⟨⟨false, rfl, fun h => by cases h⟩, hB⟩
          · have tl2 : decide (j < ts.length) = false := by simpa using hlt2
            have ht3 : ∀ t ∈ ts, t.body.size ≤ 140000 := by
              intro t ht
              obtain ⟨k, hk, rfl⟩ := List.getElem_of_mem ht
              exact HALL.out k (by omega) hk
            have HT3 := Lib.hid ht3
            clear ht3 HALL
            by_cases z1 : (n : Int) ≤ nb
            · have tz1 : decide ((n : Int) ≤ nb) = true := by simp; omega
              go_wp2
              go_ret
              exact ⟨⟨_, rfl, fun _ => ⟨l1, l2, l3, fun c hc => Nat.le_trans (HB3.out c hc) (by decide), HT3.out⟩⟩, hB⟩
            · have tz1 : decide ((n : Int) ≤ nb) = false := by simp; omega
              go_wp2
              go_ret
              exact ⟨⟨false, rfl, fun h => by cases h⟩, hB⟩
end Go.Proofs.Ytgmhhocpdfdplaa
