/- Images in memory: what keeps them; the law's own bound (Few, Small), walked. -/
import Derived.Test.YtgmhhocpdfdplaaOpenImg
import Derived.Deep.DeepCutAuto
import Derived.BigQuiet
namespace Go.Proofs.Ytgmhhocpdfdplaa
open Go.RowKit
set_option maxRecDepth 100000
set_option maxHeartbeats 4000000
theorem CompArg.Ok.below {w w' : World} {x : CompArg} (h : x.Ok w) (hb : Below w.heap.size w w') : x.Ok w' := { h with ar := h.ar.below hb }
theorem IsComps.below {w w' : World} {v : Value} {xs : List CompArg} (h : IsComps w v xs) (hb : Below w.heap.size w w') : IsComps w' v xs := ⟨h.el.below hb, fun x hx => (h.ok x hx).below hb⟩
theorem IsQuants.below {w w' : World} {v : Value} {xs : List QuantArg} (h : IsQuants w v xs) (hb : Below w.heap.size w w') : IsQuants w' v xs := ⟨h.el.below hb, h.ok⟩
theorem IsTags.below {w w' : World} {v : Value} {xs : List TagArg} (h : IsTags w v xs) (hb : Below w.heap.size w w') : IsTags w' v xs := ⟨h.el.below hb, h.ok⟩
theorem IsImg.below {w w' : World} {v : Value} {x : ImgArg} (h : IsImg w v x) (hb : Below w.heap.size w w') : IsImg w' v x := ⟨h.val, h.ww, h.wh, h.cs.below hb, h.qs.below hb, h.ts.below hb⟩
/-- An element's cells, as the walk spells their places. -/
theorem Elems.get {w : World} {size : Nat} {v : Value} {cells : List (List Value)} (h : Elems w size v cells) (hs : 0 < size) {i : Nat} (hi : i < cells.length) :
    ∃ a cap, v = .slice (some a) cells.length cap ∧ w.cell? (a.add (i * size)) = (cells.getD i [])[0]? ∧ ∀ j, j ≠ 0 → j < size → w.cell? ⟨(a.add (i * size)).block, (a.add (i * size)).off + j, none⟩ = (cells.getD i [])[j]? := by
  obtain ⟨a, cap, he, hc⟩ := h.at (Below.refl _ _) hi
  refine ⟨a, cap, he, by simpa using hc 0 hs, fun j hj0 hj => ?_⟩
  rw [← hc j hj, ← Go.Deep.add_add]
  congr 1
  generalize a.add (i * size) = b
  unfold Addr.add
  rw [if_neg hj0]
theorem IsComps.len {w : World} {v : Value} {xs : List CompArg} (h : IsComps w v xs) : ∃ b cap, v = .slice b xs.length cap := by
  obtain ⟨b, cap, hv, _⟩ := h.el.len
  exact ⟨b, cap, by rw [hv, List.length_map]⟩
theorem IsQuants.len {w : World} {v : Value} {xs : List QuantArg} (h : IsQuants w v xs) : ∃ b cap, v = .slice b xs.length cap := by
  obtain ⟨b, cap, hv, _⟩ := h.el.len
  exact ⟨b, cap, by rw [hv, List.length_map]⟩
theorem IsTags.len {w : World} {v : Value} {xs : List TagArg} (h : IsTags w v xs) : ∃ b cap, v = .slice b xs.length cap := by
  obtain ⟨b, cap, hv, _⟩ := h.el.len
  exact ⟨b, cap, by rw [hv, List.length_map]⟩
theorem getD_map' {α β : Type} (f : α → β) (l : List α) (i : Nat) (d : β) (h : i < l.length) : (l.map f).getD i d = f l[i] := by
  rw [List.getD_eq_getElem?_getD, List.getElem?_map, List.getElem?_eq_getElem h]; rfl
/-- A component's cells. -/
theorem IsComps.at {w : World} {b : Option Addr} {cap : Nat} {xs : List CompArg} (h : IsComps w (.slice b xs.length cap) xs) {i : Nat} (hi : i < xs.length) :
    ∃ a, b = some a ∧ w.cell? (a.add (i * 7)) = some (.int .i64 xs[i].id) ∧ w.cell? ⟨(a.add (i * 7)).block, (a.add (i * 7)).off + 1, none⟩ = some (.int .i64 xs[i].h) ∧ w.cell? ⟨(a.add (i * 7)).block, (a.add (i * 7)).off + 2, none⟩ = some (.int .i64 xs[i].v) ∧
      w.cell? ⟨(a.add (i * 7)).block, (a.add (i * 7)).off + 3, none⟩ = some (.int .i64 xs[i].q) ∧ w.cell? ⟨(a.add (i * 7)).block, (a.add (i * 7)).off + 4, none⟩ = some (.int .i64 xs[i].c) ∧ w.cell? ⟨(a.add (i * 7)).block, (a.add (i * 7)).off + 4 + 1, none⟩ = some (.int .i64 xs[i].r) ∧
      w.cell? ⟨(a.add (i * 7)).block, (a.add (i * 7)).off + 4 + 2, none⟩ = some xs[i].u := by
  obtain ⟨a, cap', he, h0, hj⟩ := h.el.get (by decide) (i := i) (by simpa using hi)
  rw [getD_map' _ _ _ _ hi] at h0 hj
  simp only [Value.slice.injEq] at he
  exact ⟨a, he.1, h0, hj 1 (by decide) (by decide), hj 2 (by decide) (by decide), hj 3 (by decide) (by decide), hj 4 (by decide) (by decide), hj 5 (by decide) (by decide), hj 6 (by decide) (by decide)⟩
theorem IsTags.at {w : World} {b : Option Addr} {cap : Nat} {xs : List TagArg} (h : IsTags w (.slice b xs.length cap) xs) {i : Nat} (hi : i < xs.length) :
    ∃ a, b = some a ∧ w.cell? (a.add (i * 2)) = some (.int .i64 xs[i].kind) ∧ w.cell? ⟨(a.add (i * 2)).block, (a.add (i * 2)).off + 1, none⟩ = some (.string xs[i].body) := by
  obtain ⟨a, cap', he, h0, hj⟩ := h.el.get (by decide) (i := i) (by simpa using hi)
  rw [getD_map' _ _ _ _ hi] at h0 hj
  simp only [Value.slice.injEq] at he
  exact ⟨a, he.1, h0, hj 1 (by decide) (by decide)⟩
/-- The law's own bound. -/
structure FewOk (x : ImgArg) : Prop where
  c20 : x.cs.length ≤ 20
  q20 : x.qs.length ≤ 20
  t100 : x.ts.length ≤ 100
  b300 : ∀ c ∈ x.cs, c.bs.length ≤ 20000
  t140 : ∀ t ∈ x.ts, t.body.size ≤ 140000
def FewRes (x : ImgArg) (e : Ending) : Prop := ∃ b : Bool, e = .returned (.bool b) ∧ (b = true → FewOk x)
theorem ref_few (v : Value) (x : ImgArg) (w : World) (h : IsImg w v x) :
    Calls Try.prog 54 #[v, .int .i64 300, .int .i64 140000] w fun e w' => FewRes x e ∧ Below w.heap.size w w' := by
  obtain ⟨rfl, -, -, hcs, hqs, hts⟩ := h
  obtain ⟨xw, xh, cu, qu, tu, cs, qs, ts⟩ := x
  simp only [ImgArg.val] at *
  obtain ⟨cb, ccap, rfl⟩ := hcs.len
  obtain ⟨qb, qcap, rfl⟩ := hqs.len
  obtain ⟨tb, tcap, rfl⟩ := hts.len
  obtain ⟨N, hN⟩ : ∃ N, N = w.heap.size := ⟨_, rfl⟩
  have HN := Lib.hid hN
  rw [← hN]
  clear hN
  go_enter Try.func54, Try.ntmps54
  go_upto_region 1 with fail
  rw [← HN.out]
  have hbe : Below w.heap.size w (w.alloc (.cells #[.int .i64 xw, .int .i64 xh, .slice cb cs.length ccap, .slice qb qs.length qcap, .slice tb ts.length tcap] 26)) := (Below.refl _ _).alloc (Nat.le_refl _) _
  refine wp_world (fun W => Blk W N #[.int .i64 xw, .int .i64 xh, .slice cb cs.length ccap, .slice qb qs.length qcap, .slice tb ts.length tcap] 26 ∧ IsComps W (.slice cb cs.length ccap) cs ∧ IsTags W (.slice tb ts.length tcap) ts ∧ Below N w W) ⟨Blk.new' _ _ _ HN.out, hcs.below hbe, hts.below hbe, by rw [HN.out]; exact hbe⟩ ?_
  clear hcs hts hqs hbe
  rintro W ⟨bN, hcs, hts, hB⟩
  have q2 := bN.cell 2
  have q3 := bN.cell 3
  have q4 := bN.cell 4
  simp only [List.getElem?_toArray, List.getElem?_cons_zero, List.getElem?_cons_succ] at q2 q3 q4
  by_cases h1 : 20 < cs.length ∨ 20 < qs.length ∨ 100 < ts.length
  · have hcs : decide ((20 : Int) < (cs.length : Int)) = true ∨ (decide ((20 : Int) < (cs.length : Int)) = false ∧ decide ((20 : Int) < (qs.length : Int)) = true) ∨ (decide ((20 : Int) < (cs.length : Int)) = false ∧ decide ((20 : Int) < (qs.length : Int)) = false ∧ decide ((100 : Int) < (ts.length : Int)) = true) := by simp only [decide_eq_true_eq, decide_eq_false_iff_not]; omega
    clear h1
    rcases hcs with t1 | ⟨t1, t2⟩ | ⟨t1, t2, t3⟩
    all_goals
      go_wp2
      go_ret
      exact ⟨⟨false, rfl, fun h => by cases h⟩, hB⟩
  · have t1 : decide ((20 : Int) < (cs.length : Int)) = false := by simp; omega
    have t2 : decide ((20 : Int) < (qs.length : Int)) = false := by simp; omega
    have t3 : decide ((100 : Int) < (ts.length : Int)) = false := by simp; omega
    have l1 : cs.length ≤ 20 := by omega
    have l2 : qs.length ≤ 20 := by omega
    have l3 : ts.length ≤ 100 := by omega
    clear h1
    go_wp2
    go_loop [7, 8] (fun nv iv => ∃ (n i : Nat), nv = .int .i64 n ∧ iv = .int .i64 i ∧ i ≤ cs.length ∧ n ≤ 300 * i ∧ ∀ k, (hk : k < i) → (hl : k < cs.length) → (cs[k]'hl).bs.length ≤ 300) (fun _ iv => cs.length - (intOf iv).toNat)
    case atStart => exact ⟨0, 0, rfl, rfl, Nat.zero_le _, by omega, fun k hk => by omega⟩
    case round =>
      obtain ⟨n, i, rfl, rfl, hi, hn, hall⟩ := hrel
      have HALL := Lib.hid hall
      clear hall
      by_cases hlt : i < cs.length
      · have tl : decide (i < cs.length) = true := by simpa using hlt
        obtain ⟨a, rfl, c0, c1, c2, c3, c4, c5, c6⟩ := hcs.at hlt
        have hlen : ∃ ub ucap, (cs[i]'hlt).u = .slice ub (cs[i]'hlt).bs.length ucap := by
          obtain ⟨ub, ucap, hu, _⟩ := (hcs.ok _ (List.getElem_mem hlt)).ar.len
          exact ⟨ub, ucap, hu⟩
        obtain ⟨ub, ucap, hu⟩ := hlen
        rw [hu] at c6
        have j0 : (0 : Int) ≤ (i : Int) := by omega
        have j1 : (i : Int) < (cs.length : Int) := by omega
        have HE : ∀ z, (cs[i]'hlt).bs.length = z → Hid ((cs[i]'hlt).bs.length = z) := fun z h => Lib.hid h
        obtain ⟨z, hz⟩ : ∃ z, (cs[i]'hlt).bs.length = z := ⟨_, rfl⟩
        rw [hz] at c6
        have HZ := HE z hz
        clear HE hz hu c0 c1 c2 c3 c4 c5
        by_cases hz : z ≤ 300
        · have tz : decide ((300 : Int) < (z : Int)) = false := by simp; omega
          go_wp2
          go_round
          case rel => exact ⟨n + z, i + 1, by go_num, by go_num, by omega, by omega, fun k hk hl => by
            by_cases hki : k = i
            · subst hki; rw [HZ.out]; exact hz
            · exact HALL.out k (by omega) hl⟩
          case measure => simp [intOf]; omega
        · have tz : decide ((300 : Int) < (z : Int)) = true := by simp; omega
          go_wp2
          go_ret
          exact ⟨⟨false, rfl, fun h => by cases h⟩, hB⟩
      · have tl : decide (i < cs.length) = false := by simpa using hlt
        have hb3 : ∀ c ∈ cs, c.bs.length ≤ 300 := by
          intro c hc
          obtain ⟨k, hk, rfl⟩ := List.getElem_of_mem hc
          exact HALL.out k (by omega) hk
        have HB3 := Lib.hid hb3
        have hnn : n ≤ 6000 := by omega
        clear hb3 HALL
        go_wp2
        go_loop [9, 10] (fun kv iv => ∃ (m j : Nat), kv = .int .i64 m ∧ iv = .int .i64 j ∧ j ≤ ts.length ∧ m ≤ 140000 * j ∧ ∀ k, (hk : k < j) → (hl : k < ts.length) → (ts[k]'hl).body.size ≤ 140000) (fun _ iv => ts.length - (intOf iv).toNat)
        case atStart => exact ⟨0, 0, rfl, rfl, Nat.zero_le _, by omega, fun k hk => by omega⟩
        case round =>
          obtain ⟨m, j, rfl, rfl, hj, hm, hall⟩ := hrel
          have HALL := Lib.hid hall
          clear hall
          by_cases hlt2 : j < ts.length
          · have tl2 : decide (j < ts.length) = true := by simpa using hlt2
            obtain ⟨a, rfl, c0, c1⟩ := hts.at hlt2
            have j0 : (0 : Int) ≤ (j : Int) := by omega
            have j1 : (j : Int) < (ts.length : Int) := by omega
            obtain ⟨sb, hsb⟩ : ∃ sb, (ts[j]'hlt2).body = sb := ⟨_, rfl⟩
            rw [hsb] at c1
            have HSB := Lib.hid hsb
            clear hsb c0
            by_cases hz : sb.size ≤ 140000
            · have tz : decide ((140000 : Int) < (sb.size : Int)) = false := by simp; omega
              go_wp2
              go_round
              case rel => exact ⟨m + sb.size, j + 1, by go_num, by go_num, by omega, by omega, fun k hk hl => by
                by_cases hki : k = j
                · subst hki; rw [HSB.out]; exact hz
                · exact HALL.out k (by omega) hl⟩
              case measure => simp [intOf]; omega
            · have tz : decide ((140000 : Int) < (sb.size : Int)) = true := by simp; omega
              go_wp2
              go_ret
              exact ⟨⟨false, rfl, fun h => by cases h⟩, hB⟩
          · have tl2 : decide (j < ts.length) = false := by simpa using hlt2
            have ht3 : ∀ t ∈ ts, t.body.size ≤ 140000 := by
              intro t ht
              obtain ⟨k, hk, rfl⟩ := List.getElem_of_mem ht
              exact HALL.out k (by omega) hk
            have HT3 := Lib.hid ht3
            clear ht3 HALL
            by_cases z1 : n ≤ 300
            · have tz1 : decide ((n : Int) ≤ 300) = true := by simp; omega
              go_wp2
              go_ret
              exact ⟨⟨_, rfl, fun _ => ⟨l1, l2, l3, fun c hc => Nat.le_trans (HB3.out c hc) (by decide), HT3.out⟩⟩, hB⟩
            · have tz1 : decide ((n : Int) ≤ 300) = false := by simp; omega
              go_wp2
              go_ret
              exact ⟨⟨false, rfl, fun h => by cases h⟩, hB⟩
theorem law_small (v : Value) (x : ImgArg) (w : World) (h : IsImg w v x) :
    Calls Try.prog 19 #[v] w fun e w' => (e = .returned (.int .i64 0) ∨ (e = .returned (.int .i64 1) ∧ FewOk x)) ∧ Below w.heap.size w w' := by
  have hv := h.val
  obtain ⟨xw, xh, cu, qu, tu, cs, qs, ts⟩ := x
  simp only [ImgArg.val] at hv
  subst hv
  have hbe : Below w.heap.size w (w.alloc (.cells #[.int .i64 xw, .int .i64 xh, cu, qu, tu] 26)) := (Below.refl _ _).alloc (Nat.le_refl _) _
  have hf := fun W h => ref_few (.agg #[.int .i64 xw, .int .i64 xh, cu, qu, tu]) ⟨xw, xh, cu, qu, tu, cs, qs, ts⟩ W h
  have h2 := h.below hbe
  go_enter Try.func19, Try.ntmps19
  go_upto_region 1 with fail
  refine wp_world (fun W => Blk W w.heap.size #[.int .i64 xw, .int .i64 xh, cu, qu, tu] 26 ∧ IsImg W (.agg #[.int .i64 xw, .int .i64 xh, cu, qu, tu]) ⟨xw, xh, cu, qu, tu, cs, qs, ts⟩ ∧ Below w.heap.size w W) ⟨Blk.new _ _ _, h2, hbe⟩ ?_
  clear h h2 hbe
  rintro W ⟨bN, hI, hB⟩
  go_wp2_with (first | (refine wpList_load_row rfl 26 _ rfl w.heap.size rfl 26 _ _ _ bN Try.underlying26 rfl (by kernel_rfl) ?_) | (go_at_call 54; refine (hf _ hI).mono ?_; rintro e w1 ⟨⟨b, rfl, hb⟩, hb1⟩; replace hB := hB.trans (hb1.mono hB.size); cases b))
  · go_wp2
    go_ret
    exact ⟨.inl rfl, hB⟩
  · go_wp2
    go_ret
    exact ⟨.inr ⟨rfl, hb trivial⟩, hB⟩
end Go.Proofs.Ytgmhhocpdfdplaa
