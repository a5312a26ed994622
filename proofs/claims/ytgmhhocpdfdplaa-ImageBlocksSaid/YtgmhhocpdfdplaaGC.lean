/- Texts on one foundation, joined: Img, TagsE, Ranged, EachC, BlocksE, CompsE, Comps2. -/
import Derived.Test.YtgmhhocpdfdplaaGB
import Derived.Deep.DeepCutAuto
import Derived.BigQuiet
/- Images in memory: what keeps them; the law's own bound (Few, Small), walked. -/
namespace Go.Proofs.Ytgmhhocpdfdplaa
open Go.RowKit
set_option maxRecDepth 100000
set_option maxHeartbeats 4000000
theorem CompArg.Ok.below {w w' : World} {x : CompArg} (h : x.Ok w) (hb : Below w.heap.size w w') : x.Ok w' := { h with ar := h.ar.below hb }
theorem IsComps.below {w w' : World} {v : Value} {xs : List CompArg} (h : IsComps w v xs) (hb : Below w.heap.size w w') : IsComps w' v xs := ⟨h.el.below hb, fun x hx => (h.ok x hx).below hb⟩
theorem IsQuants.below {w w' : World} {v : Value} {xs : List QuantArg} (h : IsQuants w v xs) (hb : Below w.heap.size w w') : IsQuants w' v xs := ⟨h.el.below hb, h.ok⟩
theorem IsTags.below {w w' : World} {v : Value} {xs : List TagArg} (h : IsTags w v xs) (hb : Below w.heap.size w w') : IsTags w' v xs := ⟨h.el.below hb, h.ok⟩
theorem IsImg.below {w w' : World} {v : Value} {x : ImgArg} (h : IsImg w v x) (hb : Below w.heap.size w w') : IsImg w' v x := ⟨h.val, h.ww, h.wh, h.cs.below hb, h.qs.below hb, h.ts.below hb⟩
/-- An element's cells, as the walk spells their places. -/
theorem Elems.get {w : World} {size : Nat} {v : Value} {cells : List (List Value)} (h : Elems w size v cells) (hs : 0 < size) {i : Nat} (hi : i < cells.length) :
    ∃ a cap, v = .slice (some a) cells.length cap ∧ w.cell? (a.add (i * size)) = (cells.getD i [])[0]? ∧ ∀ j, j ≠ 0 → j < size → w.cell? ⟨(a.add (i * size)).block, (a.add (i * size)).off + j, none⟩ = (cells.getD i [])[j]? := by
  obtain ⟨a, cap, he, hc⟩ := h.at (Below.refl _ _) hi
  refine ⟨a, cap, he, by simpa using hc 0 hs, fun j hj0 hj => ?_⟩
  rw [← hc j hj, ← Go.Deep.add_add]
  congr 1
  generalize a.add (i * size) = b
  unfold Addr.add
  rw [if_neg hj0]
theorem IsComps.len {w : World} {v : Value} {xs : List CompArg} (h : IsComps w v xs) : ∃ b cap, v = .slice b xs.length cap := by
  obtain ⟨b, cap, hv, _⟩ := h.el.len
  exact ⟨b, cap, by rw [hv, List.length_map]⟩
theorem IsQuants.len {w : World} {v : Value} {xs : List QuantArg} (h : IsQuants w v xs) : ∃ b cap, v = .slice b xs.length cap := by
  obtain ⟨b, cap, hv, _⟩ := h.el.len
  exact ⟨b, cap, by rw [hv, List.length_map]⟩
theorem IsTags.len {w : World} {v : Value} {xs : List TagArg} (h : IsTags w v xs) : ∃ b cap, v = .slice b xs.length cap := by
  obtain ⟨b, cap, hv, _⟩ := h.el.len
  exact ⟨b, cap, by rw [hv, List.length_map]⟩
theorem getD_map' {α β : Type} (f : α → β) (l : List α) (i : Nat) (d : β) (h : i < l.length) : (l.map f).getD i d = f l[i] := by
  rw [List.getD_eq_getElem?_getD, List.getElem?_map, List.getElem?_eq_getElem h]; rfl
/-- A component's cells. -/
theorem IsComps.at {w : World} {b : Option Addr} {cap : Nat} {xs : List CompArg} (h : IsComps w (.slice b xs.length cap) xs) {i : Nat} (hi : i < xs.length) :
    ∃ a, b = some a ∧ w.cell? (a.add (i * 7)) = some (.int .i64 xs[i].id) ∧ w.cell? ⟨(a.add (i * 7)).block, (a.add (i * 7)).off + 1, none⟩ = some (.int .i64 xs[i].h) ∧ w.cell? ⟨(a.add (i * 7)).block, (a.add (i * 7)).off + 2, none⟩ = some (.int .i64 xs[i].v) ∧
      w.cell? ⟨(a.add (i * 7)).block, (a.add (i * 7)).off + 3, none⟩ = some (.int .i64 xs[i].q) ∧ w.cell? ⟨(a.add (i * 7)).block, (a.add (i * 7)).off + 4, none⟩ = some (.int .i64 xs[i].c) ∧ w.cell? ⟨(a.add (i * 7)).block, (a.add (i * 7)).off + 4 + 1, none⟩ = some (.int .i64 xs[i].r) ∧
      w.cell? ⟨(a.add (i * 7)).block, (a.add (i * 7)).off + 4 + 2, none⟩ = some xs[i].u := by
  obtain ⟨a, cap', he, h0, hj⟩ := h.el.get (by decide) (i := i) (by simpa using hi)
  rw [getD_map' _ _ _ _ hi] at h0 hj
  simp only [Value.slice.injEq] at he
  exact ⟨a, he.1, h0, hj 1 (by decide) (by decide), hj 2 (by decide) (by decide), hj 3 (by decide) (by decide), hj 4 (by decide) (by decide), hj 5 (by decide) (by decide), hj 6 (by decide) (by decide)⟩
theorem IsTags.at {w : World} {b : Option Addr} {cap : Nat} {xs : List TagArg} (h : IsTags w (.slice b xs.length cap) xs) {i : Nat} (hi : i < xs.length) :
    ∃ a, b = some a ∧ w.cell? (a.add (i * 2)) = some (.int .i64 xs[i].kind) ∧ w.cell? ⟨(a.add (i * 2)).block, (a.add (i * 2)).off + 1, none⟩ = some (.string xs[i].body) := by
  obtain ⟨a, cap', he, h0, hj⟩ := h.el.get (by decide) (i := i) (by simpa using hi)
  rw [getD_map' _ _ _ _ hi] at h0 hj
  simp only [Value.slice.injEq] at he
  exact ⟨a, he.1, h0, hj 1 (by decide) (by decide)⟩
/-- The law's own bound. -/
structure FewOk (x : ImgArg) : Prop where
  c20 : x.cs.length ≤ 20
  q20 : x.qs.length ≤ 20
  t100 : x.ts.length ≤ 100
  b300 : ∀ c ∈ x.cs, c.bs.length ≤ 20000
  t140 : ∀ t ∈ x.ts, t.body.size ≤ 140000
def FewRes (x : ImgArg) (e : Ending) : Prop := ∃ b : Bool, e = .returned (.bool b) ∧ (b = true → FewOk x)
theorem ref_few (v : Value) (x : ImgArg) (w : World) (h : IsImg w v x) :
    Calls Try.prog 54 #[v, .int .i64 300, .int .i64 140000] w fun e w' => FewRes x e ∧ Below w.heap.size w w' := by
  obtain ⟨rfl, -, -, hcs, hqs, hts⟩ := h
  obtain ⟨xw, xh, cu, qu, tu, cs, qs, ts⟩ := x
  simp only [ImgArg.val] at *
  obtain ⟨cb, ccap, rfl⟩ := hcs.len
  obtain ⟨qb, qcap, rfl⟩ := hqs.len
  obtain ⟨tb, tcap, rfl⟩ := hts.len
  obtain ⟨N, hN⟩ : ∃ N, N = w.heap.size := ⟨_, rfl⟩
  have HN := Lib.hid hN
  rw [← hN]
  clear hN
  go_enter Try.func54, Try.ntmps54
  go_upto_region 1 with fail
  rw [← HN.out]
  have hbe : Below w.heap.size w (w.alloc (.cells #[.int .i64 xw, .int .i64 xh, .slice cb cs.length ccap, .slice qb qs.length qcap, .slice tb ts.length tcap] 26)) := (Below.refl _ _).alloc (Nat.le_refl _) _
  refine wp_world (fun W => Blk W N #[.int .i64 xw, .int .i64 xh, .slice cb cs.length ccap, .slice qb qs.length qcap, .slice tb ts.length tcap] 26 ∧ IsComps W (.slice cb cs.length ccap) cs ∧ IsTags W (.slice tb ts.length tcap) ts ∧ Below N w W) ⟨Blk.new' _ _ _ HN.out, hcs.below hbe, hts.below hbe, by rw [HN.out]; exact hbe⟩ ?_
  clear hcs hts hqs hbe
  rintro W ⟨bN, hcs, hts, hB⟩
  have q2 := bN.cell 2
  have q3 := bN.cell 3
  have q4 := bN.cell 4
  simp only [List.getElem?_toArray, List.getElem?_cons_zero, List.getElem?_cons_succ] at q2 q3 q4
  by_cases h1 : 20 < cs.length ∨ 20 < qs.length ∨ 100 < ts.length
  · have hcs : decide ((20 : Int) < (cs.length : Int)) = true ∨ (decide ((20 : Int) < (cs.length : Int)) = false ∧ decide ((20 : Int) < (qs.length : Int)) = true) ∨ (decide ((20 : Int) < (cs.length : Int)) = false ∧ decide ((20 : Int) < (qs.length : Int)) = false ∧ decide ((100 : Int) < (ts.length : Int)) = true) := by simp only [decide_eq_true_eq, decide_eq_false_iff_not]; omega
    clear h1
    rcases hcs with t1 | ⟨t1, t2⟩ | ⟨t1, t2, t3⟩
    all_goals
      go_wp2
      go_ret
      exact ⟨⟨false, rfl, fun h => by cases h⟩, hB⟩
  · have t1 : decide ((20 : Int) < (cs.length : Int)) = false := by simp; omega
    have t2 : decide ((20 : Int) < (qs.length : Int)) = false := by simp; omega
    have t3 : decide ((100 : Int) < (ts.length : Int)) = false := by simp; omega
    have l1 : cs.length ≤ 20 := by omega
    have l2 : qs.length ≤ 20 := by omega
    have l3 : ts.length ≤ 100 := by omega
    clear h1
    go_wp2
    go_loop [7, 8] (fun nv iv => ∃ (n i : Nat), nv = .int .i64 n ∧ iv = .int .i64 i ∧ i ≤ cs.length ∧ n ≤ 300 * i ∧ ∀ k, (hk : k < i) → (hl : k < cs.length) → (cs[k]'hl).bs.length ≤ 300) (fun _ iv => cs.length - (intOf iv).toNat)
    case atStart => exact ⟨0, 0, rfl, rfl, Nat.zero_le _, by omega, fun k hk => by omega⟩
    case round =>
      obtain ⟨n, i, rfl, rfl, hi, hn, hall⟩ := hrel
      have HALL := Lib.hid hall
      clear hall
      by_cases hlt : i < cs.length
      · have tl : decide (i < cs.length) = true := by simpa using hlt
        obtain ⟨a, rfl, c0, c1, c2, c3, c4, c5, c6⟩ := hcs.at hlt
        have hlen : ∃ ub ucap, (cs[i]'hlt).u = .slice ub (cs[i]'hlt).bs.length ucap := by
          obtain ⟨ub, ucap, hu, _⟩ := (hcs.ok _ (List.getElem_mem hlt)).ar.len
          exact ⟨ub, ucap, hu⟩
        obtain ⟨ub, ucap, hu⟩ := hlen
        rw [hu] at c6
        have j0 : (0 : Int) ≤ (i : Int) := by omega
        have j1 : (i : Int) < (cs.length : Int) := by omega
        have HE : ∀ z, (cs[i]'hlt).bs.length = z → Hid ((cs[i]'hlt).bs.length = z) := fun z h => Lib.hid h
        obtain ⟨z, hz⟩ : ∃ z, (cs[i]'hlt).bs.length = z := ⟨_, rfl⟩
        rw [hz] at c6
        have HZ := HE z hz
        clear HE hz hu c0 c1 c2 c3 c4 c5
        by_cases hz : z ≤ 300
        · have tz : decide ((300 : Int) < (z : Int)) = false := by simp; omega
          go_wp2
          go_round
          case rel => exact ⟨n + z, i + 1, by go_num, by go_num, by omega, by omega, fun k hk hl => by
            by_cases hki : k = i
            · subst hki; rw [HZ.out]; exact hz
            · exact HALL.out k (by omega) hl⟩
          case measure => simp [intOf]; omega
        · have tz : decide ((300 : Int) < (z : Int)) = true := by simp; omega
          go_wp2
          go_ret
          exact ⟨⟨false, rfl, fun h => by cases h⟩, hB⟩
      · have tl : decide (i < cs.length) = false := by simpa using hlt
        have hb3 : ∀ c ∈ cs, c.bs.length ≤ 300 := by
          intro c hc
          obtain ⟨k, hk, rfl⟩ := List.getElem_of_mem hc
          exact HALL.out k (by omega) hk
        have HB3 := Lib.hid hb3
        have hnn : n ≤ 6000 := by omega
        clear hb3 HALL
        go_wp2
        go_loop [9, 10] (fun kv iv => ∃ (m j : Nat), kv = .int .i64 m ∧ iv = .int .i64 j ∧ j ≤ ts.length ∧ m ≤ 140000 * j ∧ ∀ k, (hk : k < j) → (hl : k < ts.length) → (ts[k]'hl).body.size ≤ 140000) (fun _ iv => ts.length - (intOf iv).toNat)
        case atStart => exact ⟨0, 0, rfl, rfl, Nat.zero_le _, by omega, fun k hk => by omega⟩
        case round =>
          obtain ⟨m, j, rfl, rfl, hj, hm, hall⟩ := hrel
          have HALL := Lib.hid hall
          clear hall
          by_cases hlt2 : j < ts.length
          · have tl2 : decide (j < ts.length) = true := by simpa using hlt2
            obtain ⟨a, rfl, c0, c1⟩ := hts.at hlt2
            have j0 : (0 : Int) ≤ (j : Int) := by omega
            have j1 : (j : Int) < (ts.length : Int) := by omega
            obtain ⟨sb, hsb⟩ : ∃ sb, (ts[j]'hlt2).body = sb := ⟨_, rfl⟩
            rw [hsb] at c1
            have HSB := Lib.hid hsb
            clear hsb c0
            by_cases hz : sb.size ≤ 140000
            · have tz : decide ((140000 : Int) < (sb.size : Int)) = false := by simp; omega
              go_wp2
              go_round
              case rel => exact ⟨m + sb.size, j + 1, by go_num, by go_num, by omega, by omega, fun k hk hl => by
                by_cases hki : k = j
                · subst hki; rw [HSB.out]; exact hz
                · exact HALL.out k (by omega) hl⟩
              case measure => simp [intOf]; omega
            · have tz : decide ((140000 : Int) < (sb.size : Int)) = true := by simp; omega
              go_wp2
              go_ret
              exact ⟨⟨false, rfl, fun h => by cases h⟩, hB⟩
          · have tl2 : decide (j < ts.length) = false := by simpa using hlt2
            have ht3 : ∀ t ∈ ts, t.body.size ≤ 140000 := by
              intro t ht
              obtain ⟨k, hk, rfl⟩ := List.getElem_of_mem ht
              exact HALL.out k (by omega) hk
            have HT3 := Lib.hid ht3
            clear ht3 HALL
            by_cases z1 : n ≤ 300
            · have tz1 : decide ((n : Int) ≤ 300) = true := by simp; omega
              go_wp2
              go_ret
              exact ⟨⟨_, rfl, fun _ => ⟨l1, l2, l3, fun c hc => Nat.le_trans (HB3.out c hc) (by decide), HT3.out⟩⟩, hB⟩
            · have tz1 : decide ((n : Int) ≤ 300) = false := by simp; omega
              go_wp2
              go_ret
              exact ⟨⟨false, rfl, fun h => by cases h⟩, hB⟩
theorem law_small (v : Value) (x : ImgArg) (w : World) (h : IsImg w v x) :
    Calls Try.prog 19 #[v] w fun e w' => (e = .returned (.int .i64 0) ∨ (e = .returned (.int .i64 1) ∧ FewOk x)) ∧ Below w.heap.size w w' := by
  have hv := h.val
  obtain ⟨xw, xh, cu, qu, tu, cs, qs, ts⟩ := x
  simp only [ImgArg.val] at hv
  subst hv
  have hbe : Below w.heap.size w (w.alloc (.cells #[.int .i64 xw, .int .i64 xh, cu, qu, tu] 26)) := (Below.refl _ _).alloc (Nat.le_refl _) _
  have hf := fun W h => ref_few (.agg #[.int .i64 xw, .int .i64 xh, cu, qu, tu]) ⟨xw, xh, cu, qu, tu, cs, qs, ts⟩ W h
  have h2 := h.below hbe
  go_enter Try.func19, Try.ntmps19
  go_upto_region 1 with fail
  refine wp_world (fun W => Blk W w.heap.size #[.int .i64 xw, .int .i64 xh, cu, qu, tu] 26 ∧ IsImg W (.agg #[.int .i64 xw, .int .i64 xh, cu, qu, tu]) ⟨xw, xh, cu, qu, tu, cs, qs, ts⟩ ∧ Below w.heap.size w W) ⟨Blk.new _ _ _, h2, hbe⟩ ?_
  clear h h2 hbe
  rintro W ⟨bN, hI, hB⟩
  go_wp2_with (first | (refine wpList_load_row rfl 26 _ rfl w.heap.size rfl 26 _ _ _ bN Try.underlying26 rfl (by kernel_rfl) ?_) | (go_at_call 54; refine (hf _ hI).mono ?_; rintro e w1 ⟨⟨b, rfl, hb⟩, hb1⟩; replace hB := hB.trans (hb1.mono hB.size); cases b))
  · go_wp2
    go_ret
    exact ⟨.inl rfl, hB⟩
  · go_wp2
    go_ret
    exact ⟨.inr ⟨rfl, hb trivial⟩, hB⟩
end Go.Proofs.Ytgmhhocpdfdplaa
/- Package image: test, tags and the closure it hands to each. -/
namespace Go.Proofs.Ytgmhhocpdfdplaa
open Go.RowKit
set_option maxRecDepth 100000
set_option maxHeartbeats 4000000
/-- The first error of the places from i on, f of them. -/
def firstE (e : Nat → Int) : Nat → Nat → Int
  | 0, _ => 0
  | f + 1, i => if e i = 0 then firstE e f (i + 1) else e i
theorem firstE_zero (e : Nat → Int) (i : Nat) : firstE e 0 i = 0 := rfl
theorem firstE_go (e : Nat → Int) (f i : Nat) (h : e i = 0) : firstE e (f + 1) i = firstE e f (i + 1) := by simp only [firstE, if_pos h]
theorem firstE_stop (e : Nat → Int) (f i : Nat) (h : ¬ e i = 0) : firstE e (f + 1) i = e i := by simp only [firstE, if_neg h]
theorem img_test (b : Bool) (e : Int) (w : World) : Calls Try.prog 110 #[.bool b, .int .i64 e] w fun r w' => r = .returned (.int .i64 (if b = true then 0 else e)) ∧ w = w' := by
  cases b
  all_goals
    go_enter Try.func110, Try.ntmps110
    go_wp2
    go_ret
    exact ⟨rfl, rfl⟩
/-- A tag's error. -/
def tagE (t : TagArg) : Int := if t.kind ≠ 254 ∧ (t.kind < 224 ∨ 239 < t.kind) then 6 else if t.body.size ≤ 65533 then 0 else 4
theorem img_tags1 (i : Int) (t : TagArg) (w : World) : Calls Try.prog 124 #[.int .i64 i, .agg #[.int .i64 t.kind, .string t.body]] w fun r w' => r = .returned (.int .i64 (tagE t)) ∧ Below w.heap.size w w' := by
  obtain ⟨k, s⟩ := t
  unfold tagE
  simp only
  obtain ⟨N, hN⟩ : ∃ N, N = w.heap.size := ⟨_, rfl⟩
  have HN := Lib.hid hN
  rw [← hN]
  clear hN
  by_cases h1 : k ≠ 254 ∧ (k < 224 ∨ 239 < k)
  · rw [if_pos h1]
    have ts : (k != 254) = true := by simpa using h1.1
    have tt : decide (k < 224) = true ∨ (decide (k < 224) = false ∧ decide (239 < k) = true) := by simp only [decide_eq_true_eq, decide_eq_false_iff_not]; omega
    clear h1
    rcases tt with t1 | ⟨t1, t2⟩
    all_goals
      go_enter Try.func124, Try.ntmps124
      go_upto_region 1 with fail
      rw [← HN.out]
      refine wp_world (fun W => Blk W N #[.int .i64 k, .string s] 104 ∧ Below N w W) ⟨Blk.new' _ _ _ HN.out, (Below.refl _ _).alloc (by rw [HN.out]; exact Nat.le_refl _) _⟩ ?_
      rintro W ⟨bN, hB⟩
      have q0 := bN.cell 0
      have q1 := bN.cell 1
      go_wp2
      go_ret
      exact ⟨rfl, hB⟩
  · rw [if_neg h1]
    have tt : (k != 254) = false ∨ ((k != 254) = true ∧ decide (k < 224) = false ∧ decide (239 < k) = false) := by
      by_cases hk : k = 254
      · exact .inl (by simpa using hk)
      · exact .inr ⟨by simpa using hk, by simp; omega, by simp; omega⟩
    clear h1
    by_cases h2 : s.size ≤ 65533
    · rw [if_pos h2]
      have t2 : decide ((s.size : Int) ≤ 65533) = true := by simp; omega
      have hte := fun W => img_test true 4 W
      rw [if_pos rfl] at hte
      clear h2
      rcases tt with t1 | ⟨t1, t3, t4⟩
      all_goals
        go_enter Try.func124, Try.ntmps124
        go_upto_region 1 with fail
        rw [← HN.out]
        refine wp_world (fun W => Blk W N #[.int .i64 k, .string s] 104 ∧ Below N w W) ⟨Blk.new' _ _ _ HN.out, (Below.refl _ _).alloc (by rw [HN.out]; exact Nat.le_refl _) _⟩ ?_
        rintro W ⟨bN, hB⟩
        have q0 := bN.cell 0
        have q1 := bN.cell 1
        go_wp2_with (go_at_call 110; refine (hte _).mono ?_; rintro r w1 ⟨rfl, rfl⟩)
        go_ret
        exact ⟨rfl, hB⟩
    · rw [if_neg h2]
      have t2 : decide ((s.size : Int) ≤ 65533) = false := by simp; omega
      have hte := fun W => img_test false 4 W
      rw [if_neg (by decide)] at hte
      clear h2
      rcases tt with t1 | ⟨t1, t3, t4⟩
      all_goals
        go_enter Try.func124, Try.ntmps124
        go_upto_region 1 with fail
        rw [← HN.out]
        refine wp_world (fun W => Blk W N #[.int .i64 k, .string s] 104 ∧ Below N w W) ⟨Blk.new' _ _ _ HN.out, (Below.refl _ _).alloc (by rw [HN.out]; exact Nat.le_refl _) _⟩ ?_
        rintro W ⟨bN, hB⟩
        have q0 := bN.cell 0
        have q1 := bN.cell 1
        go_wp2_with (go_at_call 110; refine (hte _).mono ?_; rintro r w1 ⟨rfl, rfl⟩)
        go_ret
        exact ⟨rfl, hB⟩
theorem img_each_tag (tb : Option Addr) (cap : Nat) (ts : List TagArg) (hl : ts.length ≤ 100) (w : World) (h : IsTags w (.slice tb ts.length cap) ts) :
    Calls Try.prog 123 #[.slice tb ts.length cap, .func (.func 124) #[] #[]] w fun r w' => r = .returned (.int .i64 (firstE (fun i => tagE (ts.getD i ⟨0, ⟨#[]⟩⟩)) ts.length 0)) ∧ Below w.heap.size w w' := by
  obtain ⟨e, he⟩ : ∃ e : Nat → Int, (fun i => tagE (ts.getD i ⟨0, ⟨#[]⟩⟩)) = e := ⟨_, rfl⟩
  rw [he]
  obtain ⟨T, hT⟩ : ∃ T, firstE e ts.length 0 = T := ⟨_, rfl⟩
  rw [hT]
  have HT := Lib.hid hT
  have HE := Lib.hid he
  clear hT he
  go_enter Try.func123, Try.ntmps123
  go_wp2
  go_loopw [10] (fun iv wr => ∃ i : Nat, iv = .int .i64 i ∧ i ≤ ts.length ∧ firstE e (ts.length - i) i = T ∧ Below w.heap.size w wr) (fun iv _ => ts.length - (intOf iv).toNat)
  case atStart => exact ⟨0, rfl, Nat.zero_le _, HT.out, Below.refl _ _⟩
  case round =>
    obtain ⟨i, rfl, hi, hf, hB⟩ := hrel
    by_cases hlt : i < ts.length
    · have tl : decide (i < ts.length) = true := by simpa using hlt
      obtain ⟨a, rfl, c0, c1⟩ := (h.below hB).at hlt
      have j0 : (0 : Int) ≤ (i : Int) := by omega
      have j1 : (i : Int) < (ts.length : Int) := by omega
      have hei : e i = tagE (ts[i]'hlt) := by rw [← HE.out]; simp [List.getD_eq_getElem?_getD, hlt]
      have hc := fun W => img_tags1 (i : Int) (ts[i]'hlt) W
      rw [← hei] at hc
      rw [show ts.length - i = ts.length - (i + 1) + 1 by omega] at hf
      have HF := Lib.hid hf
      clear hf hei
      obtain ⟨k, hk⟩ : ∃ k, (ts[i]'hlt).kind = k := ⟨_, rfl⟩
      obtain ⟨s, hs⟩ : ∃ s, (ts[i]'hlt).body = s := ⟨_, rfl⟩
      rw [hk, hs] at hc
      rw [hk] at c0
      rw [hs] at c1
      clear hk hs
      go_upto_region 4 with fail
      obtain ⟨M, hM⟩ : ∃ M, M = wr.heap.size := ⟨_, rfl⟩
      have hsz := hB.size
      refine wp_world (fun W => Blk W M #[.int .i64 k, .string s] 104 ∧ Below w.heap.size w W) ⟨Blk.new' _ _ _ hM, hB.alloc hsz _⟩ ?_
      rw [← hM]
      clear hM hB c0 c1 hsz
      rintro W ⟨bM, hB⟩
      by_cases he0 : e i = 0
      · have hf := HF.out
        rw [firstE_go e _ i he0] at hf
        have HF2 := Lib.hid hf
        rw [he0] at hc
        clear hf he0 HF
        go_wp2_with (first | (refine wpList_load_row rfl 104 _ rfl M rfl 104 _ _ _ bM Try.underlying104 rfl (by kernel_rfl) ?_) | (go_at_call 124; refine (hc _).mono ?_; rintro r w1 ⟨rfl, hb1⟩; replace hB := hB.trans (hb1.mono hB.size)))
        go_roundw
        case rel => exact ⟨i + 1, by go_num, by omega, HF2.out, hB⟩
        case measure => simp [intOf]; omega
      · have hf := HF.out
        rw [firstE_stop e _ i he0] at hf
        rw [hf] at hc he0
        have tn : (T != 0) = true := by simpa using he0
        clear hf he0 HF
        go_wp2_with (first | (refine wpList_load_row rfl 104 _ rfl M rfl 104 _ _ _ bM Try.underlying104 rfl (by kernel_rfl) ?_) | (go_at_call 124; refine (hc _).mono ?_; rintro r w1 ⟨rfl, hb1⟩; replace hB := hB.trans (hb1.mono hB.size)))
        go_ret
        exact ⟨rfl, hB⟩
    · have tl : decide (i < ts.length) = false := by simpa using hlt
      rw [show ts.length - i = 0 by omega] at hf
      obtain rfl : T = 0 := hf.symm
      go_wp2
      go_ret
      exact ⟨rfl, hB⟩
/-- The tags' error. -/
def tagsE (ts : List TagArg) : Int := if 64 < ts.length then 12 else firstE (fun i => tagE (ts.getD i ⟨0, ⟨#[]⟩⟩)) ts.length 0
theorem img_tags (v : Value) (x : ImgArg) (w : World) (h : IsImg w v x) (hf : FewOk x) :
    Calls Try.prog 63 #[v] w fun r w' => r = .returned (.int .i64 (tagsE x.ts)) ∧ Below w.heap.size w w' := by
  obtain ⟨rfl, -, -, -, -, hts⟩ := h
  have hl := hf.t100
  obtain ⟨xw, xh, cu, qu, tu, cs, qs, ts⟩ := x
  simp only [ImgArg.val] at *
  obtain ⟨tb, tcap, rfl⟩ := hts.len
  have hbe : Below w.heap.size w (w.alloc (.cells #[.int .i64 xw, .int .i64 xh, cu, qu, .slice tb ts.length tcap] 26)) := (Below.refl _ _).alloc (Nat.le_refl _) _
  obtain ⟨N, hN⟩ : ∃ N, N = w.heap.size := ⟨_, rfl⟩
  have HN := Lib.hid hN
  rw [← hN]
  clear hf hN
  obtain ⟨R, hR⟩ : ∃ R, tagsE ts = R := ⟨_, rfl⟩
  rw [hR]
  have HR := Lib.hid hR
  clear hR
  go_enter Try.func63, Try.ntmps63
  go_upto_region 1 with fail
  refine wp_world (fun W => Blk W N #[.int .i64 xw, .int .i64 xh, cu, qu, .slice tb ts.length tcap] 26 ∧ IsTags W (.slice tb ts.length tcap) ts ∧ Below N w W) ⟨Blk.new' _ _ _ HN.out, hts.below hbe, by rw [HN.out]; exact hbe⟩ ?_
  rw [← HN.out]
  clear hts hbe
  rintro W ⟨bN, hts, hB⟩
  have q4 : W.cell? ⟨N, 4, none⟩ = some (.slice tb ts.length tcap) := bN.cell 4
  have hea := img_each_tag tb tcap ts hl W hts
  by_cases h64 : 64 < ts.length
  · have t1 : decide ((64 : Int) < (ts.length : Int)) = true := by simp; omega
    obtain rfl : R = 12 := by rw [← HR.out]; unfold tagsE; rw [if_pos h64]
    clear HR hea
    go_wp2
    go_ret
    exact ⟨rfl, hB⟩
  · have t1 : decide ((64 : Int) < (ts.length : Int)) = false := by simp; omega
    have hr : firstE (fun i => tagE (ts.getD i ⟨0, ⟨#[]⟩⟩)) ts.length 0 = R := by rw [← HR.out]; unfold tagsE; rw [if_neg h64]
    rw [hr] at hea
    clear hr HR
    go_wp2_with (go_at_call 123; refine hea.mono ?_; rintro r w1 ⟨rfl, hb1⟩; have hC := hB.trans (hb1.mono (Nat.le_of_lt bN.lt)))
    go_ret
    exact ⟨rfl, hC⟩
end Go.Proofs.Ytgmhhocpdfdplaa
/- Package image: whether a block's coefficients are in their ranges. -/
namespace Go.Proofs.Ytgmhhocpdfdplaa
open Go.RowKit
set_option maxRecDepth 100000
set_option maxHeartbeats 4000000
def okC (n : Int) : Bool := decide (-1023 ≤ n ∧ n ≤ 1023)
theorem img_ranged1 (n : Int) (w : World) : Calls Try.prog 143 #[.int .i16 n] w fun r w' => r = .returned (.bool (!okC n)) ∧ w = w' := by
  by_cases h1 : n < -1023
  · have t1 : decide (n < -1023) = true := by simpa using h1
    have hk : okC n = false := by unfold okC; exact decide_eq_false (by omega)
    rw [hk]; clear hk h1
    go_enter Try.func143, Try.ntmps143
    go_wp2
    go_ret
    exact ⟨rfl, rfl⟩
  · have t1 : decide (n < -1023) = false := by simpa using h1
    by_cases h2 : 1023 < n
    · have t2 : decide (1023 < n) = true := by simpa using h2
      have hk : okC n = false := by unfold okC; exact decide_eq_false (by omega)
      rw [hk]; clear hk h1 h2
      go_enter Try.func143, Try.ntmps143
      go_wp2
      go_ret
      exact ⟨rfl, rfl⟩
    · have t2 : decide (1023 < n) = false := by simpa using h2
      have hk : okC n = true := by unfold okC; exact decide_eq_true (by omega)
      rw [hk]; clear hk h1 h2
      go_enter Try.func143, Try.ntmps143
      go_wp2
      go_ret
      exact ⟨rfl, rfl⟩
/-- Are the places from i on, f of them, fine? -/
def allOk (p : Nat → Bool) : Nat → Nat → Bool
  | 0, _ => true
  | f + 1, i => p i && allOk p f (i + 1)
theorem allOk_go (p : Nat → Bool) (f i : Nat) (h : p i = true) : allOk p (f + 1) i = allOk p f (i + 1) := by simp only [allOk, h, Bool.true_and]
theorem allOk_stop (p : Nat → Bool) (f i : Nat) (h : p i = false) : allOk p (f + 1) i = false := by simp only [allOk, h, Bool.false_and]
/-- What IndexFunc answers: below 0 just if all are fine. -/
def IdxRes (b : Bool) (e : Ending) : Prop := ∃ r : Int, e = .returned (.int .i64 r) ∧ decide (0 ≤ r) = !b
theorem idx_ranged (N : Nat) (xs : List Int) (hl : xs.length = 64) (w : World) (hB : Blk w N (ints .i16 xs) 57) :
    Calls Try.prog 152 #[.slice (some ⟨N, 1, none⟩) 63 63, .func (.func 143) #[] #[]] w fun e w' => IdxRes (allOk (fun k => okC (xs.getD (k + 1) 0)) 63 0) e ∧ w = w' := by
  obtain ⟨p, hp⟩ : ∃ p : Nat → Bool, (fun k => okC (xs.getD (k + 1) 0)) = p := ⟨_, rfl⟩
  rw [hp]
  obtain ⟨T, hT⟩ : ∃ T, allOk p 63 0 = T := ⟨_, rfl⟩
  rw [hT]
  have HT := Lib.hid hT
  have HP := Lib.hid hp
  clear hT hp
  go_enter Try.func152, Try.ntmps152
  go_wp2
  go_loop [8] (fun iv => ∃ i : Nat, iv = .int .i64 i ∧ i ≤ 63 ∧ allOk p (63 - i) i = T) (fun iv => 63 - (intOf iv).toNat)
  case atStart => exact ⟨0, rfl, by omega, HT.out⟩
  case round =>
    obtain ⟨i, rfl, hi, hf⟩ := hrel
    by_cases hlt : i < 63
    · have tl : decide ((i : Int) < 63) = true := by simp; omega
      have tl2 : decide (i < 63) = true := by simpa using hlt
      have c : w.cell? ⟨N, 1 + i, none⟩ = some (.int .i16 (xs.getD (i + 1) 0)) := by rw [hB.cell (1 + i), Nat.add_comm 1 i]; exact ints_get _ _ _ (by omega)
      have j0 : (0 : Int) ≤ (i : Int) := by omega
      have j1 : (i : Int) < 63 := by omega
      have hpi : p i = okC (xs.getD (i + 1) 0) := by rw [← HP.out]
      have hc := fun W => img_ranged1 (xs.getD (i + 1) 0) W
      rw [← hpi] at hc
      rw [show 63 - i = 63 - (i + 1) + 1 by omega] at hf
      have HF := Lib.hid hf
      clear hf hpi
      generalize xs.getD (i + 1) 0 = y at *
      by_cases hq : p i = true
      · have hf := HF.out
        rw [allOk_go p _ i hq] at hf
        have HF2 := Lib.hid hf
        rw [hq] at hc
        clear hf hq HF
        go_wp2_with (go_at_call 143; refine (hc _).mono ?_; rintro r w1 ⟨rfl, rfl⟩)
        go_round
        case rel => exact ⟨i + 1, by go_num, by omega, HF2.out⟩
        case measure => simp [intOf]; omega
      · rw [Bool.not_eq_true] at hq
        have hf := HF.out
        rw [allOk_stop p _ i hq] at hf
        rw [hq] at hc
        clear HF hq
        subst hf
        go_wp2_with (go_at_call 143; refine (hc _).mono ?_; rintro r w1 ⟨rfl, rfl⟩)
        go_ret
        exact ⟨⟨(i : Int), rfl, by simp⟩, rfl⟩
    · have tl : decide ((i : Int) < 63) = false := by simp; omega
      have tl2 : decide (i < 63) = false := by simpa using hlt
      rw [show 63 - i = 0 by omega] at hf
      obtain rfl : T = true := hf.symm
      go_wp2
      go_ret
      exact ⟨⟨-1, rfl, by decide⟩, rfl⟩
theorem has_ranged (N : Nat) (xs : List Int) (hl : xs.length = 64) (w : World) (hB : Blk w N (ints .i16 xs) 57) :
    Calls Try.prog 142 #[.slice (some ⟨N, 1, none⟩) 63 63, .func (.func 143) #[] #[]] w fun e w' => e = .returned (.bool (!allOk (fun k => okC (xs.getD (k + 1) 0)) 63 0)) ∧ w = w' := by
  have hi := idx_ranged N xs hl w hB
  generalize allOk (fun k => okC (xs.getD (k + 1) 0)) 63 0 = b at *
  go_enter Try.func142, Try.ntmps142
  go_wp2_with (go_at_call 152; refine hi.mono ?_; rintro e w1 ⟨⟨r, rfl, hr⟩, rfl⟩)
  go_ret
  exact ⟨by first | rfl | rw [← hr]; rfl, rfl⟩
/-- Are a block's coefficients in their ranges? -/
def rangedB (xs : List Int) : Bool := decide (-1024 ≤ xs.getD 0 0 ∧ xs.getD 0 0 < 1024) && allOk (fun k => okC (xs.getD (k + 1) 0)) 63 0
theorem img_ranged (xs : List Int) (hl : xs.length = 64) (w : World) :
    Calls Try.prog 122 #[.agg (ints .i16 xs)] w fun e w' => e = .returned (.bool (rangedB xs)) ∧ Below w.heap.size w w' := by
  unfold rangedB
  obtain ⟨N, hN⟩ : ∃ N, N = w.heap.size := ⟨_, rfl⟩
  have HN := Lib.hid hN
  rw [← hN]
  have hh := fun W h => has_ranged N xs hl W h
  generalize allOk (fun k => okC (xs.getD (k + 1) 0)) 63 0 = b at *
  have hg0 := ints_get .i16 xs 0 (by omega)
  obtain ⟨x, hx⟩ : ∃ x, xs.getD 0 0 = x := ⟨_, rfl⟩
  rw [hx] at hg0 ⊢
  clear hx
  have hcs : (decide (x < -1024) = true ∧ decide (-1024 ≤ x ∧ x < 1024) = false) ∨ (decide (x < -1024) = false ∧ decide (1024 ≤ x) = true ∧ decide (-1024 ≤ x ∧ x < 1024) = false) ∨ (decide (x < -1024) = false ∧ decide (1024 ≤ x) = false ∧ decide (-1024 ≤ x ∧ x < 1024) = true) := by simp only [decide_eq_true_eq, decide_eq_false_iff_not]; omega
  clear hN
  rcases hcs with ⟨t1, t3⟩ | ⟨t1, t2, t3⟩ | ⟨t1, t2, t3⟩
  all_goals
    rw [t3]
    clear t3
    go_enter Try.func122, Try.ntmps122
    go_upto_region 1 with fail
    rw [← HN.out]
    refine wp_world (fun W => Blk W N (ints .i16 xs) 57 ∧ Below N w W) ⟨Blk.new' _ _ _ HN.out, (Below.refl _ _).alloc (by rw [HN.out]; exact Nat.le_refl _) _⟩ ?_
    rintro W ⟨bN, hB⟩
    have q0 : W.cell? ⟨N, 0, none⟩ = some (.int .i16 x) := by rw [bN.cell 0]; exact hg0
    go_wp2_with (go_at_call 142; refine (hh _ bN).mono ?_; rintro e w1 ⟨rfl, rfl⟩)
    go_ret
    exact ⟨by simp, hB⟩
end Go.Proofs.Ytgmhhocpdfdplaa
/- Package image: each over components, at each of its closures. Made by gen_eachc.py. -/
namespace Go.Proofs.Ytgmhhocpdfdplaa
open Go.RowKit
set_option maxRecDepth 100000
set_option maxHeartbeats 4000000
theorem each_comps (N : Nat) (cb : Option Addr) (cap : Nat) (cs : List CompArg) (hl : cs.length ≤ 20) (e : Nat → Int) (w : World) (h : IsComps w (.slice cb cs.length cap) cs)
    (hc : ∀ (i : Nat) (hi : i < cs.length) (W : World), Below w.heap.size w W → Calls Try.prog 107 #[.int .i64 i, .agg #[.int .i64 (cs[i]'hi).id, .int .i64 (cs[i]'hi).h, .int .i64 (cs[i]'hi).v, .int .i64 (cs[i]'hi).q, .int .i64 (cs[i]'hi).c, .int .i64 (cs[i]'hi).r, (cs[i]'hi).u], .pointer (some ⟨N, 0, none⟩)] W fun r w' => r = .returned (.int .i64 (e i)) ∧ Below W.heap.size W w') :
    Calls Try.prog 106 #[.slice cb cs.length cap, .func (.func 107) #[] #[.pointer (some ⟨N, 0, none⟩)]] w fun r w' => r = .returned (.int .i64 (firstE e cs.length 0)) ∧ Below w.heap.size w w' := by
  obtain ⟨T, hT⟩ : ∃ T, firstE e cs.length 0 = T := ⟨_, rfl⟩
  rw [hT]
  have HT := Lib.hid hT
  have HC := Lib.hid hc
  clear hT hc
  go_enter Try.func106, Try.ntmps106
  go_wp2
  go_loopw [10] (fun iv wr => ∃ i : Nat, iv = .int .i64 i ∧ i ≤ cs.length ∧ firstE e (cs.length - i) i = T ∧ Below w.heap.size w wr) (fun iv _ => cs.length - (intOf iv).toNat)
  case atStart => exact ⟨0, rfl, Nat.zero_le _, HT.out, Below.refl _ _⟩
  case round =>
    obtain ⟨i, rfl, hi, hf, hB⟩ := hrel
    by_cases hlt : i < cs.length
    · have tl : decide (i < cs.length) = true := by simpa using hlt
      obtain ⟨a, rfl, c0, c1, c2, c3, c4, c5, c6⟩ := (h.below hB).at hlt
      have j0 : (0 : Int) ≤ (i : Int) := by omega
      have j1 : (i : Int) < (cs.length : Int) := by omega
      have hu : ∃ ub un ucap, (cs[i]'hlt).u = .slice ub un ucap := by
        obtain ⟨ub, ucap, hu, _⟩ := (h.ok _ (List.getElem_mem hlt)).ar.len
        exact ⟨ub, _, ucap, hu⟩
      obtain ⟨ub, un, ucap, hu⟩ := hu
      rw [show cs.length - i = cs.length - (i + 1) + 1 by omega] at hf
      have HF := Lib.hid hf
      have hc := HC.out i hlt
      rw [hu] at c6 hc
      clear hf hu
      generalize (cs[i]'hlt).id = x0 at *
      generalize (cs[i]'hlt).h = x1 at *
      generalize (cs[i]'hlt).v = x2 at *
      generalize (cs[i]'hlt).q = x3 at *
      generalize (cs[i]'hlt).c = x4 at *
      generalize (cs[i]'hlt).r = x5 at *
      go_upto_region 4 with fail
      obtain ⟨M, hM⟩ : ∃ M, M = wr.heap.size := ⟨_, rfl⟩
      have hsz := hB.size
      refine wp_world (fun W => Blk W M #[.int .i64 x0, .int .i64 x1, .int .i64 x2, .int .i64 x3, .int .i64 x4, .int .i64 x5, .slice ub un ucap] 63 ∧ Below w.heap.size w W) ⟨Blk.new' _ _ _ hM, hB.alloc hsz _⟩ ?_
      rw [← hM]
      clear hM hB c0 c1 c2 c3 c4 c5 c6 hsz
      rintro W ⟨bM, hB⟩
      by_cases he0 : e i = 0
      · have hf := HF.out
        rw [firstE_go e _ i he0] at hf
        have HF2 := Lib.hid hf
        rw [he0] at hc
        clear hf he0 HF
        go_wp2_with (first | (refine wpList_load_row rfl 63 _ rfl M rfl 63 _ _ _ bM Try.underlying63 rfl (by kernel_rfl) ?_) | (go_at_call 107; refine (hc _ hB).mono ?_; rintro r w1 ⟨rfl, hb1⟩; replace hB := hB.trans (hb1.mono hB.size)))
        go_roundw
        case rel => exact ⟨i + 1, by go_num, by omega, HF2.out, hB⟩
        case measure => simp [intOf]; omega
      · have hf := HF.out
        rw [firstE_stop e _ i he0] at hf
        rw [hf] at hc he0
        have tn : (T != 0) = true := by simpa using he0
        clear hf he0 HF
        go_wp2_with (first | (refine wpList_load_row rfl 63 _ rfl M rfl 63 _ _ _ bM Try.underlying63 rfl (by kernel_rfl) ?_) | (go_at_call 107; refine (hc _ hB).mono ?_; rintro r w1 ⟨rfl, hb1⟩; replace hB := hB.trans (hb1.mono hB.size)))
        go_ret
        exact ⟨rfl, hB⟩
    · have tl : decide (i < cs.length) = false := by simpa using hlt
      rw [show cs.length - i = 0 by omega] at hf
      obtain rfl : T = 0 := hf.symm
      go_wp2
      go_ret
      exact ⟨rfl, hB⟩
theorem each_tables (N : Nat) (cb : Option Addr) (cap : Nat) (cs : List CompArg) (hl : cs.length ≤ 20) (e : Nat → Int) (w : World) (h : IsComps w (.slice cb cs.length cap) cs)
    (hc : ∀ (i : Nat) (hi : i < cs.length) (W : World), Below w.heap.size w W → Calls Try.prog 116 #[.int .i64 i, .agg #[.int .i64 (cs[i]'hi).id, .int .i64 (cs[i]'hi).h, .int .i64 (cs[i]'hi).v, .int .i64 (cs[i]'hi).q, .int .i64 (cs[i]'hi).c, .int .i64 (cs[i]'hi).r, (cs[i]'hi).u], .pointer (some ⟨N, 0, none⟩)] W fun r w' => r = .returned (.int .i64 (e i)) ∧ Below W.heap.size W w') :
    Calls Try.prog 106 #[.slice cb cs.length cap, .func (.func 116) #[] #[.pointer (some ⟨N, 0, none⟩)]] w fun r w' => r = .returned (.int .i64 (firstE e cs.length 0)) ∧ Below w.heap.size w w' := by
  obtain ⟨T, hT⟩ : ∃ T, firstE e cs.length 0 = T := ⟨_, rfl⟩
  rw [hT]
  have HT := Lib.hid hT
  have HC := Lib.hid hc
  clear hT hc
  go_enter Try.func106, Try.ntmps106
  go_wp2
  go_loopw [10] (fun iv wr => ∃ i : Nat, iv = .int .i64 i ∧ i ≤ cs.length ∧ firstE e (cs.length - i) i = T ∧ Below w.heap.size w wr) (fun iv _ => cs.length - (intOf iv).toNat)
  case atStart => exact ⟨0, rfl, Nat.zero_le _, HT.out, Below.refl _ _⟩
  case round =>
    obtain ⟨i, rfl, hi, hf, hB⟩ := hrel
    by_cases hlt : i < cs.length
    · have tl : decide (i < cs.length) = true := by simpa using hlt
      obtain ⟨a, rfl, c0, c1, c2, c3, c4, c5, c6⟩ := (h.below hB).at hlt
      have j0 : (0 : Int) ≤ (i : Int) := by omega
      have j1 : (i : Int) < (cs.length : Int) := by omega
      have hu : ∃ ub un ucap, (cs[i]'hlt).u = .slice ub un ucap := by
        obtain ⟨ub, ucap, hu, _⟩ := (h.ok _ (List.getElem_mem hlt)).ar.len
        exact ⟨ub, _, ucap, hu⟩
      obtain ⟨ub, un, ucap, hu⟩ := hu
      rw [show cs.length - i = cs.length - (i + 1) + 1 by omega] at hf
      have HF := Lib.hid hf
      have hc := HC.out i hlt
      rw [hu] at c6 hc
      clear hf hu
      generalize (cs[i]'hlt).id = x0 at *
      generalize (cs[i]'hlt).h = x1 at *
      generalize (cs[i]'hlt).v = x2 at *
      generalize (cs[i]'hlt).q = x3 at *
      generalize (cs[i]'hlt).c = x4 at *
      generalize (cs[i]'hlt).r = x5 at *
      go_upto_region 4 with fail
      obtain ⟨M, hM⟩ : ∃ M, M = wr.heap.size := ⟨_, rfl⟩
      have hsz := hB.size
      refine wp_world (fun W => Blk W M #[.int .i64 x0, .int .i64 x1, .int .i64 x2, .int .i64 x3, .int .i64 x4, .int .i64 x5, .slice ub un ucap] 63 ∧ Below w.heap.size w W) ⟨Blk.new' _ _ _ hM, hB.alloc hsz _⟩ ?_
      rw [← hM]
      clear hM hB c0 c1 c2 c3 c4 c5 c6 hsz
      rintro W ⟨bM, hB⟩
      by_cases he0 : e i = 0
      · have hf := HF.out
        rw [firstE_go e _ i he0] at hf
        have HF2 := Lib.hid hf
        rw [he0] at hc
        clear hf he0 HF
        go_wp2_with (first | (refine wpList_load_row rfl 63 _ rfl M rfl 63 _ _ _ bM Try.underlying63 rfl (by kernel_rfl) ?_) | (go_at_call 116; refine (hc _ hB).mono ?_; rintro r w1 ⟨rfl, hb1⟩; replace hB := hB.trans (hb1.mono hB.size)))
        go_roundw
        case rel => exact ⟨i + 1, by go_num, by omega, HF2.out, hB⟩
        case measure => simp [intOf]; omega
      · have hf := HF.out
        rw [firstE_stop e _ i he0] at hf
        rw [hf] at hc he0
        have tn : (T != 0) = true := by simpa using he0
        clear hf he0 HF
        go_wp2_with (first | (refine wpList_load_row rfl 63 _ rfl M rfl 63 _ _ _ bM Try.underlying63 rfl (by kernel_rfl) ?_) | (go_at_call 116; refine (hc _ hB).mono ?_; rintro r w1 ⟨rfl, hb1⟩; replace hB := hB.trans (hb1.mono hB.size)))
        go_ret
        exact ⟨rfl, hB⟩
    · have tl : decide (i < cs.length) = false := by simpa using hlt
      rw [show cs.length - i = 0 by omega] at hf
      obtain rfl : T = 0 := hf.symm
      go_wp2
      go_ret
      exact ⟨rfl, hB⟩
theorem each_planes (N : Nat) (cb : Option Addr) (cap : Nat) (cs : List CompArg) (hl : cs.length ≤ 20) (e : Nat → Int) (w : World) (h : IsComps w (.slice cb cs.length cap) cs)
    (hc : ∀ (i : Nat) (hi : i < cs.length) (W : World), Below w.heap.size w W → Calls Try.prog 117 #[.int .i64 i, .agg #[.int .i64 (cs[i]'hi).id, .int .i64 (cs[i]'hi).h, .int .i64 (cs[i]'hi).v, .int .i64 (cs[i]'hi).q, .int .i64 (cs[i]'hi).c, .int .i64 (cs[i]'hi).r, (cs[i]'hi).u], .pointer (some ⟨N, 0, none⟩)] W fun r w' => r = .returned (.int .i64 (e i)) ∧ Below W.heap.size W w') :
    Calls Try.prog 106 #[.slice cb cs.length cap, .func (.func 117) #[] #[.pointer (some ⟨N, 0, none⟩)]] w fun r w' => r = .returned (.int .i64 (firstE e cs.length 0)) ∧ Below w.heap.size w w' := by
  obtain ⟨T, hT⟩ : ∃ T, firstE e cs.length 0 = T := ⟨_, rfl⟩
  rw [hT]
  have HT := Lib.hid hT
  have HC := Lib.hid hc
  clear hT hc
  go_enter Try.func106, Try.ntmps106
  go_wp2
  go_loopw [10] (fun iv wr => ∃ i : Nat, iv = .int .i64 i ∧ i ≤ cs.length ∧ firstE e (cs.length - i) i = T ∧ Below w.heap.size w wr) (fun iv _ => cs.length - (intOf iv).toNat)
  case atStart => exact ⟨0, rfl, Nat.zero_le _, HT.out, Below.refl _ _⟩
  case round =>
    obtain ⟨i, rfl, hi, hf, hB⟩ := hrel
    by_cases hlt : i < cs.length
    · have tl : decide (i < cs.length) = true := by simpa using hlt
      obtain ⟨a, rfl, c0, c1, c2, c3, c4, c5, c6⟩ := (h.below hB).at hlt
      have j0 : (0 : Int) ≤ (i : Int) := by omega
      have j1 : (i : Int) < (cs.length : Int) := by omega
      have hu : ∃ ub un ucap, (cs[i]'hlt).u = .slice ub un ucap := by
        obtain ⟨ub, ucap, hu, _⟩ := (h.ok _ (List.getElem_mem hlt)).ar.len
        exact ⟨ub, _, ucap, hu⟩
      obtain ⟨ub, un, ucap, hu⟩ := hu
      rw [show cs.length - i = cs.length - (i + 1) + 1 by omega] at hf
      have HF := Lib.hid hf
      have hc := HC.out i hlt
      rw [hu] at c6 hc
      clear hf hu
      generalize (cs[i]'hlt).id = x0 at *
      generalize (cs[i]'hlt).h = x1 at *
      generalize (cs[i]'hlt).v = x2 at *
      generalize (cs[i]'hlt).q = x3 at *
      generalize (cs[i]'hlt).c = x4 at *
      generalize (cs[i]'hlt).r = x5 at *
      go_upto_region 4 with fail
      obtain ⟨M, hM⟩ : ∃ M, M = wr.heap.size := ⟨_, rfl⟩
      have hsz := hB.size
      refine wp_world (fun W => Blk W M #[.int .i64 x0, .int .i64 x1, .int .i64 x2, .int .i64 x3, .int .i64 x4, .int .i64 x5, .slice ub un ucap] 63 ∧ Below w.heap.size w W) ⟨Blk.new' _ _ _ hM, hB.alloc hsz _⟩ ?_
      rw [← hM]
      clear hM hB c0 c1 c2 c3 c4 c5 c6 hsz
      rintro W ⟨bM, hB⟩
      by_cases he0 : e i = 0
      · have hf := HF.out
        rw [firstE_go e _ i he0] at hf
        have HF2 := Lib.hid hf
        rw [he0] at hc
        clear hf he0 HF
        go_wp2_with (first | (refine wpList_load_row rfl 63 _ rfl M rfl 63 _ _ _ bM Try.underlying63 rfl (by kernel_rfl) ?_) | (go_at_call 117; refine (hc _ hB).mono ?_; rintro r w1 ⟨rfl, hb1⟩; replace hB := hB.trans (hb1.mono hB.size)))
        go_roundw
        case rel => exact ⟨i + 1, by go_num, by omega, HF2.out, hB⟩
        case measure => simp [intOf]; omega
      · have hf := HF.out
        rw [firstE_stop e _ i he0] at hf
        rw [hf] at hc he0
        have tn : (T != 0) = true := by simpa using he0
        clear hf he0 HF
        go_wp2_with (first | (refine wpList_load_row rfl 63 _ rfl M rfl 63 _ _ _ bM Try.underlying63 rfl (by kernel_rfl) ?_) | (go_at_call 117; refine (hc _ hB).mono ?_; rintro r w1 ⟨rfl, hb1⟩; replace hB := hB.trans (hb1.mono hB.size)))
        go_ret
        exact ⟨rfl, hB⟩
    · have tl : decide (i < cs.length) = false := by simpa using hlt
      rw [show cs.length - i = 0 by omega] at hf
      obtain rfl : T = 0 := hf.symm
      go_wp2
      go_ret
      exact ⟨rfl, hB⟩
theorem each_blocks (cb : Option Addr) (cap : Nat) (cs : List CompArg) (hl : cs.length ≤ 20) (e : Nat → Int) (w : World) (h : IsComps w (.slice cb cs.length cap) cs)
    (hc : ∀ (i : Nat) (hi : i < cs.length) (W : World), Below w.heap.size w W → Calls Try.prog 119 #[.int .i64 i, .agg #[.int .i64 (cs[i]'hi).id, .int .i64 (cs[i]'hi).h, .int .i64 (cs[i]'hi).v, .int .i64 (cs[i]'hi).q, .int .i64 (cs[i]'hi).c, .int .i64 (cs[i]'hi).r, (cs[i]'hi).u]] W fun r w' => r = .returned (.int .i64 (e i)) ∧ Below W.heap.size W w') :
    Calls Try.prog 106 #[.slice cb cs.length cap, .func (.func 119) #[] #[]] w fun r w' => r = .returned (.int .i64 (firstE e cs.length 0)) ∧ Below w.heap.size w w' := by
  obtain ⟨T, hT⟩ : ∃ T, firstE e cs.length 0 = T := ⟨_, rfl⟩
  rw [hT]
  have HT := Lib.hid hT
  have HC := Lib.hid hc
  clear hT hc
  go_enter Try.func106, Try.ntmps106
  go_wp2
  go_loopw [10] (fun iv wr => ∃ i : Nat, iv = .int .i64 i ∧ i ≤ cs.length ∧ firstE e (cs.length - i) i = T ∧ Below w.heap.size w wr) (fun iv _ => cs.length - (intOf iv).toNat)
  case atStart => exact ⟨0, rfl, Nat.zero_le _, HT.out, Below.refl _ _⟩
  case round =>
    obtain ⟨i, rfl, hi, hf, hB⟩ := hrel
    by_cases hlt : i < cs.length
    · have tl : decide (i < cs.length) = true := by simpa using hlt
      obtain ⟨a, rfl, c0, c1, c2, c3, c4, c5, c6⟩ := (h.below hB).at hlt
      have j0 : (0 : Int) ≤ (i : Int) := by omega
      have j1 : (i : Int) < (cs.length : Int) := by omega
      have hu : ∃ ub un ucap, (cs[i]'hlt).u = .slice ub un ucap := by
        obtain ⟨ub, ucap, hu, _⟩ := (h.ok _ (List.getElem_mem hlt)).ar.len
        exact ⟨ub, _, ucap, hu⟩
      obtain ⟨ub, un, ucap, hu⟩ := hu
      rw [show cs.length - i = cs.length - (i + 1) + 1 by omega] at hf
      have HF := Lib.hid hf
      have hc := HC.out i hlt
      rw [hu] at c6 hc
      clear hf hu
      generalize (cs[i]'hlt).id = x0 at *
      generalize (cs[i]'hlt).h = x1 at *
      generalize (cs[i]'hlt).v = x2 at *
      generalize (cs[i]'hlt).q = x3 at *
      generalize (cs[i]'hlt).c = x4 at *
      generalize (cs[i]'hlt).r = x5 at *
      go_upto_region 4 with fail
      obtain ⟨M, hM⟩ : ∃ M, M = wr.heap.size := ⟨_, rfl⟩
      have hsz := hB.size
      refine wp_world (fun W => Blk W M #[.int .i64 x0, .int .i64 x1, .int .i64 x2, .int .i64 x3, .int .i64 x4, .int .i64 x5, .slice ub un ucap] 63 ∧ Below w.heap.size w W) ⟨Blk.new' _ _ _ hM, hB.alloc hsz _⟩ ?_
      rw [← hM]
      clear hM hB c0 c1 c2 c3 c4 c5 c6 hsz
      rintro W ⟨bM, hB⟩
      by_cases he0 : e i = 0
      · have hf := HF.out
        rw [firstE_go e _ i he0] at hf
        have HF2 := Lib.hid hf
        rw [he0] at hc
        clear hf he0 HF
        go_wp2_with (first | (refine wpList_load_row rfl 63 _ rfl M rfl 63 _ _ _ bM Try.underlying63 rfl (by kernel_rfl) ?_) | (go_at_call 119; refine (hc _ hB).mono ?_; rintro r w1 ⟨rfl, hb1⟩; replace hB := hB.trans (hb1.mono hB.size)))
        go_roundw
        case rel => exact ⟨i + 1, by go_num, by omega, HF2.out, hB⟩
        case measure => simp [intOf]; omega
      · have hf := HF.out
        rw [firstE_stop e _ i he0] at hf
        rw [hf] at hc he0
        have tn : (T != 0) = true := by simpa using he0
        clear hf he0 HF
        go_wp2_with (first | (refine wpList_load_row rfl 63 _ rfl M rfl 63 _ _ _ bM Try.underlying63 rfl (by kernel_rfl) ?_) | (go_at_call 119; refine (hc _ hB).mono ?_; rintro r w1 ⟨rfl, hb1⟩; replace hB := hB.trans (hb1.mono hB.size)))
        go_ret
        exact ⟨rfl, hB⟩
    · have tl : decide (i < cs.length) = false := by simpa using hlt
      rw [show cs.length - i = 0 by omega] at hf
      obtain rfl : T = 0 := hf.symm
      go_wp2
      go_ret
      exact ⟨rfl, hB⟩
end Go.Proofs.Ytgmhhocpdfdplaa
/- Package image: blocks, and the closures it hands to each. -/
namespace Go.Proofs.Ytgmhhocpdfdplaa
open Go.RowKit
set_option maxRecDepth 100000
set_option maxHeartbeats 4000000
def blockE (b : List Int) : Int := if rangedB b = true then 0 else 10
theorem img_blocks11 (i : Int) (b : List Int) (hl : b.length = 64) (w : World) : Calls Try.prog 121 #[.int .i64 i, .agg (ints .i16 b)] w fun r w' => r = .returned (.int .i64 (blockE b)) ∧ Below w.heap.size w w' := by
  obtain ⟨N, hN⟩ : ∃ N, N = w.heap.size := ⟨_, rfl⟩
  have HN := Lib.hid hN
  rw [← hN]
  clear hN
  have hra := fun W => img_ranged b hl W
  have hte := fun W => img_test (rangedB b) 10 W
  unfold blockE
  generalize rangedB b = q at *
  go_enter Try.func121, Try.ntmps121
  go_upto_region 1 with fail
  rw [← HN.out]
  refine wp_world (fun W => Blk W N (ints .i16 b) 57 ∧ Below N w W) ⟨Blk.new' _ _ _ HN.out, (Below.refl _ _).alloc (by rw [HN.out]; exact Nat.le_refl _) _⟩ ?_
  rintro W ⟨bN, hB⟩
  go_wp2_with (first | (refine wpList_load_row rfl 57 _ rfl N rfl 57 _ _ _ bN Try.underlying57 rfl (by rw [ints_size, hl]; kernel_rfl) ?_) | (go_at_call 122; refine (hra _).mono ?_; rintro r w1 ⟨rfl, hb1⟩; have hC := hB.trans (hb1.mono (Nat.le_of_lt bN.lt))) | (go_at_call 110; refine (hte _).mono ?_; rintro r w2 ⟨rfl, rfl⟩))
  all_goals
    go_ret
    exact ⟨rfl, hC⟩
theorem ar_loady {w : World} {ad : Addr} {cap n : Nat} {bs : List (List Int)} (h : Ar w 64 (.slice (some ad) n cap) n (bcells bs)) (h64 : Right64 bs) (i : Nat) (hi : i < bs.length) (x : List Int) (hx : bs.getD i [] = x) {o : Oper} {a : Act} (y : Operand) (ho : o.op = .load 57 y) (hy : a.eval y = .pointer (some (ad.add (i * 64)))) :
    (execOp a.eval o).run Try.prog w = .ok (.value (.agg (ints .i16 x))) w := hx ▸ ar_load h h64 i hi y ho hy
theorem each_block (u : Value) (bs : List (List Int)) (h64 : Right64 bs) (hl : bs.length ≤ 1000000) (w : World) (h : Ar w 64 u bs.length (bcells bs)) :
    Calls Try.prog 120 #[u, .func (.func 121) #[] #[]] w fun r w' => r = .returned (.int .i64 (firstE (fun i => blockE (bs.getD i [])) bs.length 0)) ∧ Below w.heap.size w w' := by
  obtain ⟨e, he⟩ : ∃ e : Nat → Int, (fun i => blockE (bs.getD i [])) = e := ⟨_, rfl⟩
  rw [he]
  obtain ⟨T, hT⟩ : ∃ T, firstE e bs.length 0 = T := ⟨_, rfl⟩
  rw [hT]
  have HT := Lib.hid hT
  have HE := Lib.hid he
  clear hT he
  obtain ⟨ub, cap, rfl, -⟩ := h.len
  go_enter Try.func120, Try.ntmps120
  go_wp2
  go_loopw [10] (fun iv wr => ∃ i : Nat, iv = .int .i64 i ∧ i ≤ bs.length ∧ firstE e (bs.length - i) i = T ∧ Below w.heap.size w wr) (fun iv _ => bs.length - (intOf iv).toNat)
  case atStart => exact ⟨0, rfl, Nat.zero_le _, HT.out, Below.refl _ _⟩
  case round =>
    obtain ⟨i, rfl, hi, hf, hB⟩ := hrel
    by_cases hlt : i < bs.length
    · have tl : decide (i < bs.length) = true := by simpa using hlt
      have hA := h.below hB
      obtain ⟨ad, rfl⟩ : ∃ ad, ub = some ad := by
        rcases hA.2 with ⟨h0, h1⟩ | ⟨ad, _, h0, _⟩
        · omega
        · exact ⟨ad, by simpa using (Value.slice.inj h0).1⟩
      have j0 : (0 : Int) ≤ (i : Int) := by omega
      have j1 : (i : Int) < (bs.length : Int) := by omega
      obtain ⟨x, hx⟩ : ∃ x, bs.getD i [] = x := ⟨_, rfl⟩
      have hx64 : x.length = 64 := by
        rw [← hx, List.getD_eq_getElem?_getD, List.getElem?_eq_getElem hlt]
        exact h64 _ (List.getElem_mem hlt)
      have hei : e i = blockE x := by rw [← HE.out, ← hx]
      have hc := fun W => img_blocks11 (i : Int) x hx64 W
      rw [← hei] at hc
      rw [show bs.length - i = bs.length - (i + 1) + 1 by omega] at hf
      have HF := Lib.hid hf
      clear hf hei
      obtain ⟨M, hM⟩ : ∃ M, M = wr.heap.size := ⟨_, rfl⟩
      have HM := Lib.hid hM
      clear hM
      go_upto_region 4 with (first | (refine Great.wpList_runTo rfl _ rfl _ _ (ar_loady hA h64 i hlt x hx _ rfl rfl) ?_) | (refine Great.wpList_runTo rfl _ rfl _ _ (run_alloc_blk _ rfl) ?_) | (refine wpList_store_row rfl 57 _ _ rfl M _ (by rw [HM.out]; rfl) rfl 57 _ (Blk.new' _ _ _ HM.out) (by rw [ints_size, hx64]; kernel_rfl) (by rw [ints_size, ints_size, hx64]; rfl) (ints_one _ _) ?_))
      rw [← HM.out]
      refine wp_world (fun W => Blk W M (ints .i16 x) 57 ∧ Below w.heap.size w W) ⟨(Blk.new' _ _ _ HM.out).row _, Below.setRow (hB.alloc hB.size _) (by rw [HM.out]; exact hB.size) _⟩ ?_
      clear hB hA
      rintro W ⟨bM, hB⟩
      by_cases he0 : e i = 0
      · have hf := HF.out
        rw [firstE_go e _ i he0] at hf
        have HF2 := Lib.hid hf
        rw [he0] at hc
        clear hf he0 HF
        go_wp2_with (first | (refine wpList_load_row rfl 57 _ rfl M rfl 57 _ _ _ bM Try.underlying57 rfl (by rw [ints_size, hx64]; kernel_rfl) ?_) | (go_at_call 121; refine (hc _).mono ?_; rintro r w1 ⟨rfl, hb1⟩; replace hB := hB.trans (hb1.mono hB.size)))
        go_roundw
        case rel => exact ⟨i + 1, by go_num, by omega, HF2.out, hB⟩
        case measure => simp [intOf]; omega
      · have hf := HF.out
        rw [firstE_stop e _ i he0] at hf
        rw [hf] at hc he0
        have tn : (T != 0) = true := by simpa using he0
        clear hf he0 HF
        go_wp2_with (first | (refine wpList_load_row rfl 57 _ rfl M rfl 57 _ _ _ bM Try.underlying57 rfl (by rw [ints_size, hx64]; kernel_rfl) ?_) | (go_at_call 121; refine (hc _).mono ?_; rintro r w1 ⟨rfl, hb1⟩; replace hB := hB.trans (hb1.mono hB.size)))
        go_ret
        exact ⟨rfl, hB⟩
    · have tl : decide (i < bs.length) = false := by simpa using hlt
      rw [show bs.length - i = 0 by omega] at hf
      obtain rfl : T = 0 := hf.symm
      go_wp2
      go_ret
      exact ⟨rfl, hB⟩
/-- The error of a component's blocks. -/
def compBE (x : CompArg) : Int := firstE (fun i => blockE (x.bs.getD i [])) x.bs.length 0
theorem img_blocks1 (i : Int) (x : CompArg) (hl : x.bs.length ≤ 1000000) (w : World) (h : x.Ok w) : Calls Try.prog 119 #[.int .i64 i, .agg #[.int .i64 x.id, .int .i64 x.h, .int .i64 x.v, .int .i64 x.q, .int .i64 x.c, .int .i64 x.r, x.u]] w fun r w' => r = .returned (.int .i64 (compBE x)) ∧ Below w.heap.size w w' := by
  obtain ⟨N, hN⟩ : ∃ N, N = w.heap.size := ⟨_, rfl⟩
  have HN := Lib.hid hN
  rw [← hN]
  have hea := fun W (hb : Below w.heap.size w W) => each_block x.u x.bs h.h64 hl W (h.ar.below hb)
  rw [← hN] at hea
  obtain ⟨T, hT⟩ : ∃ T, firstE (fun i => blockE (x.bs.getD i [])) x.bs.length 0 = T := ⟨_, rfl⟩
  unfold compBE
  rw [hT] at hea ⊢
  obtain ⟨ub, ucap, hu, -⟩ := h.ar.len
  obtain ⟨x0, x1, x2, x3, x4, x5, u, bs⟩ := x
  simp only at hu hea ⊢
  subst hu
  clear hT hl h hN
  go_enter Try.func119, Try.ntmps119
  go_upto_region 1 with fail
  rw [← HN.out]
  refine wp_world (fun W => Blk W N #[.int .i64 x0, .int .i64 x1, .int .i64 x2, .int .i64 x3, .int .i64 x4, .int .i64 x5, .slice ub bs.length ucap] 63 ∧ Below N w W) ⟨Blk.new' _ _ _ HN.out, (Below.refl _ _).alloc (by rw [HN.out]; exact Nat.le_refl _) _⟩ ?_
  rintro W ⟨bN, hB⟩
  have q6 : W.cell? ⟨N, 6, none⟩ = some (.slice ub bs.length ucap) := bN.cell 6
  go_wp2_with (go_at_call 120; refine (hea _ hB).mono ?_; rintro r w1 ⟨rfl, hb1⟩; have hC := hB.trans (hb1.mono (Nat.le_of_lt bN.lt)))
  go_ret
  exact ⟨rfl, hC⟩
def blocksE (cs : List CompArg) : Int := firstE (fun i => compBE (cs.getD i ⟨0, 0, 0, 0, 0, 0, .slice none 0 0, []⟩)) cs.length 0
theorem img_blocks (v : Value) (x : ImgArg) (w : World) (h : IsImg w v x) (hf : FewOk x) :
    Calls Try.prog 62 #[v] w fun r w' => r = .returned (.int .i64 (blocksE x.cs)) ∧ Below w.heap.size w w' := by
  obtain ⟨rfl, -, -, hcs, -, -⟩ := h
  have hl := hf.c20
  have h300 := hf.b300
  obtain ⟨xw, xh, cu, qu, tu, cs, qs, ts⟩ := x
  simp only [ImgArg.val] at *
  obtain ⟨cb, ccap, rfl⟩ := hcs.len
  have hbe : Below w.heap.size w (w.alloc (.cells #[.int .i64 xw, .int .i64 xh, .slice cb cs.length ccap, qu, tu] 26)) := (Below.refl _ _).alloc (Nat.le_refl _) _
  obtain ⟨N, hN⟩ : ∃ N, N = w.heap.size := ⟨_, rfl⟩
  have HN := Lib.hid hN
  rw [← hN]
  obtain ⟨R, hR⟩ : ∃ R, blocksE cs = R := ⟨_, rfl⟩
  rw [hR]
  have HR := Lib.hid hR
  have H300 := Lib.hid h300
  clear hf hN hR h300
  go_enter Try.func62, Try.ntmps62
  go_upto_region 1 with fail
  rw [← HN.out]
  refine wp_world (fun W => Blk W N #[.int .i64 xw, .int .i64 xh, .slice cb cs.length ccap, qu, tu] 26 ∧ IsComps W (.slice cb cs.length ccap) cs ∧ Below N w W) ⟨Blk.new' _ _ _ HN.out, hcs.below hbe, by rw [HN.out]; exact hbe⟩ ?_
  clear hcs hbe
  rintro W ⟨bN, hcs, hB⟩
  have q2 : W.cell? ⟨N, 2, none⟩ = some (.slice cb cs.length ccap) := bN.cell 2
  have hea := each_blocks cb ccap cs hl (fun i => compBE (cs.getD i ⟨0, 0, 0, 0, 0, 0, .slice none 0 0, []⟩)) W hcs (fun i hi W' hb => by
    have he : cs.getD i ⟨0, 0, 0, 0, 0, 0, .slice none 0 0, []⟩ = cs[i]'hi := by simp [List.getD_eq_getElem?_getD, hi]
    simp only [he]
    exact img_blocks1 i (cs[i]'hi) (by have := H300.out _ (List.getElem_mem hi); omega) W' ((hcs.ok _ (List.getElem_mem hi)).below hb))
  have hr : firstE (fun i => compBE (cs.getD i ⟨0, 0, 0, 0, 0, 0, .slice none 0 0, []⟩)) cs.length 0 = R := by rw [← HR.out]; rfl
  rw [hr] at hea
  clear hr HR
  go_wp2_with (go_at_call 106; refine hea.mono ?_; rintro r w1 ⟨rfl, hb1⟩; have hC := hB.trans (hb1.mono (Nat.le_of_lt bN.lt)))
  go_ret
  exact ⟨rfl, hC⟩
end Go.Proofs.Ytgmhhocpdfdplaa
/- Package image: comps, and slices.ContainsFunc over components at two closures. Made by gen_comps.py. -/
namespace Go.Proofs.Ytgmhhocpdfdplaa
open Go.RowKit
set_option maxRecDepth 100000
set_option maxHeartbeats 4000000
def noComp : CompArg := ⟨0, 0, 0, 0, 0, 0, .slice none 0 0, []⟩
theorem comp_getD {cs : List CompArg} {k : Nat} (hk : k < cs.length) : cs.getD k noComp = cs[k]'hk := by simp [List.getD_eq_getElem?_getD, hk]
/-- Is one of the places from i on, f of them, so? -/
def anyF (p : Nat → Bool) : Nat → Nat → Bool
  | 0, _ => false
  | f + 1, i => p i || anyF p f (i + 1)
theorem anyF_go (p : Nat → Bool) (f i : Nat) (h : p i = false) : anyF p (f + 1) i = anyF p f (i + 1) := by simp only [anyF, h, Bool.false_or]
theorem anyF_stop (p : Nat → Bool) (f i : Nat) (h : p i = true) : anyF p (f + 1) i = true := by simp only [anyF, h, Bool.true_or]
def IdxAny (b : Bool) (e : Ending) : Prop := ∃ r : Int, e = .returned (.int .i64 r) ∧ decide (0 ≤ r) = b
theorem clo_id (M : Nat) (y x0 x1 x2 x3 x4 x5 : Int) (ub : Option Addr) (un uc : Nat) (w : World) (hM : M < w.heap.size) (hc : w.cell? ⟨M, 0, none⟩ = some (.int .i64 y)) :
    Calls Try.prog 109 #[.agg #[.int .i64 x0, .int .i64 x1, .int .i64 x2, .int .i64 x3, .int .i64 x4, .int .i64 x5, .slice ub un uc], .pointer (some ⟨M, 0, none⟩)] w fun r w' => r = .returned (.bool (decide (x0 = y))) ∧ Below w.heap.size w w' := by
  obtain ⟨N, hN⟩ : ∃ N, N = w.heap.size := ⟨_, rfl⟩
  have HN := Lib.hid hN
  have hbe : Below w.heap.size w (w.alloc (.cells #[.int .i64 x0, .int .i64 x1, .int .i64 x2, .int .i64 x3, .int .i64 x4, .int .i64 x5, .slice ub un uc] 63)) := (Below.refl _ _).alloc (Nat.le_refl _) _
  rw [← hN]
  go_enter Try.func109, Try.ntmps109
  go_upto_region 1 with fail
  rw [← HN.out]
  refine wp_world (fun W => Blk W N #[.int .i64 x0, .int .i64 x1, .int .i64 x2, .int .i64 x3, .int .i64 x4, .int .i64 x5, .slice ub un uc] 63 ∧ W.cell? ⟨M, 0, none⟩ = some (.int .i64 y) ∧ Below N w W) ⟨Blk.new' _ _ _ HN.out, (hbe.cell (p := ⟨M, 0, none⟩) hM).trans hc, by rw [HN.out]; exact hbe⟩ ?_
  clear hbe hc hN
  rintro W ⟨bN, hc, hB⟩
  have q : W.cell? ⟨N, 0, none⟩ = some (.int .i64 x0) := bN.cell 0
  go_wp2
  go_ret
  refine ⟨?_, hB⟩
  show Ending.returned (.bool (x0 == y)) = _
  have e : (x0 == y) = decide (x0 = y) := rfl
  rw [e]
theorem idx_id (M : Nat) (y : Int) (ab : Option Addr) (n cap cap2 : Nat) (cs : List CompArg) (hn : n ≤ cs.length) (hl : cs.length ≤ 1000000) (w : World) (h : IsComps w (.slice ab cs.length cap) cs) (hM : M < w.heap.size) (hc : w.cell? ⟨M, 0, none⟩ = some (.int .i64 y)) :
    Calls Try.prog 140 #[.slice ab n cap2, .func (.func 109) #[] #[.pointer (some ⟨M, 0, none⟩)]] w fun e w' => IdxAny (anyF (fun k => decide ((cs.getD k noComp).id = y)) n 0) e ∧ Below w.heap.size w w' := by
  obtain ⟨p, hp⟩ : ∃ p : Nat → Bool, (fun k => decide ((cs.getD k noComp).id = y)) = p := ⟨_, rfl⟩
  rw [hp]
  obtain ⟨T, hT⟩ : ∃ T, anyF p n 0 = T := ⟨_, rfl⟩
  rw [hT]
  have HT := Lib.hid hT
  have HP := Lib.hid hp
  clear hT hp
  go_enter Try.func140, Try.ntmps140
  go_wp2
  go_loopw [8] (fun iv wr => ∃ i : Nat, iv = .int .i64 i ∧ i ≤ n ∧ anyF p (n - i) i = T ∧ Below w.heap.size w wr) (fun iv _ => n - (intOf iv).toNat)
  case atStart => exact ⟨0, rfl, Nat.zero_le _, HT.out, Below.refl _ _⟩
  case round =>
    obtain ⟨i, rfl, hi, hf, hB⟩ := hrel
    by_cases hlt : i < n
    · have tl : decide (i < n) = true := by simpa using hlt
      have hlc : i < cs.length := by omega
      obtain ⟨a, rfl, c0, c1, c2, c3, c4, c5, c6⟩ := (h.below hB).at hlc
      have j0 : (0 : Int) ≤ (i : Int) := by omega
      have j1 : (i : Int) < (n : Int) := by omega
      have hu : ∃ ub un uc, (cs[i]'hlc).u = .slice ub un uc := by
        obtain ⟨ub, uc, hu, _⟩ := (h.ok _ (List.getElem_mem hlc)).ar.len
        exact ⟨ub, _, uc, hu⟩
      obtain ⟨ub, un, uc, hu⟩ := hu
      rw [show n - i = n - (i + 1) + 1 by omega] at hf
      have HF := Lib.hid hf
      have hpi : p i = decide ((cs[i]'hlc).id = y) := by rw [← HP.out]; simp only [comp_getD hlc]
      rw [hu] at c6
      clear hf hu
      generalize (cs[i]'hlc).id = x0 at *
      generalize (cs[i]'hlc).h = x1 at *
      generalize (cs[i]'hlc).v = x2 at *
      generalize (cs[i]'hlc).q = x3 at *
      generalize (cs[i]'hlc).c = x4 at *
      generalize (cs[i]'hlc).r = x5 at *
      have hcl := clo_id M y x0 x1 x2 x3 x4 x5 ub un uc wr (Nat.lt_of_lt_of_le hM hB.size) ((hB.cell (p := ⟨M, 0, none⟩) hM).trans hc)
      rw [← hpi] at hcl
      clear hpi
      by_cases hq : p i = true
      · have hf := HF.out
        rw [anyF_stop p _ i hq] at hf
        rw [hq] at hcl
        clear hq HF
        subst hf
        go_wp2_with (go_at_call 109; refine hcl.mono ?_; rintro r w1 ⟨rfl, hb1⟩; replace hB := hB.trans (hb1.mono hB.size))
        go_ret
        exact ⟨⟨(i : Int), rfl, by simp⟩, hB⟩
      · rw [Bool.not_eq_true] at hq
        have hf := HF.out
        rw [anyF_go p _ i hq] at hf
        have HF2 := Lib.hid hf
        rw [hq] at hcl
        clear hf hq HF
        go_wp2_with (go_at_call 109; refine hcl.mono ?_; rintro r w1 ⟨rfl, hb1⟩; replace hB := hB.trans (hb1.mono hB.size))
        go_roundw
        case rel => exact ⟨i + 1, by go_num, by omega, HF2.out, hB⟩
        case measure => simp [intOf]; omega
    · have tl : decide (i < n) = false := by simpa using hlt
      rw [show n - i = 0 by omega] at hf
      obtain rfl : T = false := hf.symm
      go_wp2
      go_ret
      exact ⟨⟨-1, rfl, by decide⟩, hB⟩
theorem has_id (M : Nat) (y : Int) (ab : Option Addr) (n cap cap2 : Nat) (cs : List CompArg) (hn : n ≤ cs.length) (hl : cs.length ≤ 1000000) (w : World) (h : IsComps w (.slice ab cs.length cap) cs) (hM : M < w.heap.size) (hc : w.cell? ⟨M, 0, none⟩ = some (.int .i64 y)) :
    Calls Try.prog 108 #[.slice ab n cap2, .func (.func 109) #[] #[.pointer (some ⟨M, 0, none⟩)]] w fun e w' => e = .returned (.bool (anyF (fun k => decide ((cs.getD k noComp).id = y)) n 0)) ∧ Below w.heap.size w w' := by
  have hi := idx_id M y ab n cap cap2 cs hn hl w h hM hc
  generalize anyF (fun k => decide ((cs.getD k noComp).id = y)) n 0 = b at *
  go_enter Try.func108, Try.ntmps108
  go_wp2_with (go_at_call 140; refine hi.mono ?_; rintro e w1 ⟨⟨r, rfl, hr⟩, hb1⟩)
  go_ret
  exact ⟨by first | rfl | rw [← hr]; rfl, hb1⟩
theorem clo_q (M : Nat) (y x0 x1 x2 x3 x4 x5 : Int) (ub : Option Addr) (un uc : Nat) (w : World) (hM : M < w.heap.size) (hc : w.cell? ⟨M, 0, none⟩ = some (.int .i64 y)) :
    Calls Try.prog 112 #[.agg #[.int .i64 x0, .int .i64 x1, .int .i64 x2, .int .i64 x3, .int .i64 x4, .int .i64 x5, .slice ub un uc], .pointer (some ⟨M, 0, none⟩)] w fun r w' => r = .returned (.bool (decide (x3 = y))) ∧ Below w.heap.size w w' := by
  obtain ⟨N, hN⟩ : ∃ N, N = w.heap.size := ⟨_, rfl⟩
  have HN := Lib.hid hN
  have hbe : Below w.heap.size w (w.alloc (.cells #[.int .i64 x0, .int .i64 x1, .int .i64 x2, .int .i64 x3, .int .i64 x4, .int .i64 x5, .slice ub un uc] 63)) := (Below.refl _ _).alloc (Nat.le_refl _) _
  rw [← hN]
  go_enter Try.func112, Try.ntmps112
  go_upto_region 1 with fail
  rw [← HN.out]
  refine wp_world (fun W => Blk W N #[.int .i64 x0, .int .i64 x1, .int .i64 x2, .int .i64 x3, .int .i64 x4, .int .i64 x5, .slice ub un uc] 63 ∧ W.cell? ⟨M, 0, none⟩ = some (.int .i64 y) ∧ Below N w W) ⟨Blk.new' _ _ _ HN.out, (hbe.cell (p := ⟨M, 0, none⟩) hM).trans hc, by rw [HN.out]; exact hbe⟩ ?_
  clear hbe hc hN
  rintro W ⟨bN, hc, hB⟩
  have q : W.cell? ⟨N, 3, none⟩ = some (.int .i64 x3) := bN.cell 3
  go_wp2
  go_ret
  refine ⟨?_, hB⟩
  show Ending.returned (.bool (x3 == y)) = _
  have e : (x3 == y) = decide (x3 = y) := rfl
  rw [e]
theorem idx_q (M : Nat) (y : Int) (ab : Option Addr) (n cap cap2 : Nat) (cs : List CompArg) (hn : n ≤ cs.length) (hl : cs.length ≤ 1000000) (w : World) (h : IsComps w (.slice ab cs.length cap) cs) (hM : M < w.heap.size) (hc : w.cell? ⟨M, 0, none⟩ = some (.int .i64 y)) :
    Calls Try.prog 140 #[.slice ab n cap2, .func (.func 112) #[] #[.pointer (some ⟨M, 0, none⟩)]] w fun e w' => IdxAny (anyF (fun k => decide ((cs.getD k noComp).q = y)) n 0) e ∧ Below w.heap.size w w' := by
  obtain ⟨p, hp⟩ : ∃ p : Nat → Bool, (fun k => decide ((cs.getD k noComp).q = y)) = p := ⟨_, rfl⟩
  rw [hp]
  obtain ⟨T, hT⟩ : ∃ T, anyF p n 0 = T := ⟨_, rfl⟩
  rw [hT]
  have HT := Lib.hid hT
  have HP := Lib.hid hp
  clear hT hp
  go_enter Try.func140, Try.ntmps140
  go_wp2
  go_loopw [8] (fun iv wr => ∃ i : Nat, iv = .int .i64 i ∧ i ≤ n ∧ anyF p (n - i) i = T ∧ Below w.heap.size w wr) (fun iv _ => n - (intOf iv).toNat)
  case atStart => exact ⟨0, rfl, Nat.zero_le _, HT.out, Below.refl _ _⟩
  case round =>
    obtain ⟨i, rfl, hi, hf, hB⟩ := hrel
    by_cases hlt : i < n
    · have tl : decide (i < n) = true := by simpa using hlt
      have hlc : i < cs.length := by omega
      obtain ⟨a, rfl, c0, c1, c2, c3, c4, c5, c6⟩ := (h.below hB).at hlc
      have j0 : (0 : Int) ≤ (i : Int) := by omega
      have j1 : (i : Int) < (n : Int) := by omega
      have hu : ∃ ub un uc, (cs[i]'hlc).u = .slice ub un uc := by
        obtain ⟨ub, uc, hu, _⟩ := (h.ok _ (List.getElem_mem hlc)).ar.len
        exact ⟨ub, _, uc, hu⟩
      obtain ⟨ub, un, uc, hu⟩ := hu
      rw [show n - i = n - (i + 1) + 1 by omega] at hf
      have HF := Lib.hid hf
      have hpi : p i = decide ((cs[i]'hlc).q = y) := by rw [← HP.out]; simp only [comp_getD hlc]
      rw [hu] at c6
      clear hf hu
      generalize (cs[i]'hlc).id = x0 at *
      generalize (cs[i]'hlc).h = x1 at *
      generalize (cs[i]'hlc).v = x2 at *
      generalize (cs[i]'hlc).q = x3 at *
      generalize (cs[i]'hlc).c = x4 at *
      generalize (cs[i]'hlc).r = x5 at *
      have hcl := clo_q M y x0 x1 x2 x3 x4 x5 ub un uc wr (Nat.lt_of_lt_of_le hM hB.size) ((hB.cell (p := ⟨M, 0, none⟩) hM).trans hc)
      rw [← hpi] at hcl
      clear hpi
      by_cases hq : p i = true
      · have hf := HF.out
        rw [anyF_stop p _ i hq] at hf
        rw [hq] at hcl
        clear hq HF
        subst hf
        go_wp2_with (go_at_call 112; refine hcl.mono ?_; rintro r w1 ⟨rfl, hb1⟩; replace hB := hB.trans (hb1.mono hB.size))
        go_ret
        exact ⟨⟨(i : Int), rfl, by simp⟩, hB⟩
      · rw [Bool.not_eq_true] at hq
        have hf := HF.out
        rw [anyF_go p _ i hq] at hf
        have HF2 := Lib.hid hf
        rw [hq] at hcl
        clear hf hq HF
        go_wp2_with (go_at_call 112; refine hcl.mono ?_; rintro r w1 ⟨rfl, hb1⟩; replace hB := hB.trans (hb1.mono hB.size))
        go_roundw
        case rel => exact ⟨i + 1, by go_num, by omega, HF2.out, hB⟩
        case measure => simp [intOf]; omega
    · have tl : decide (i < n) = false := by simpa using hlt
      rw [show n - i = 0 by omega] at hf
      obtain rfl : T = false := hf.symm
      go_wp2
      go_ret
      exact ⟨⟨-1, rfl, by decide⟩, hB⟩
theorem has_q (M : Nat) (y : Int) (ab : Option Addr) (n cap cap2 : Nat) (cs : List CompArg) (hn : n ≤ cs.length) (hl : cs.length ≤ 1000000) (w : World) (h : IsComps w (.slice ab cs.length cap) cs) (hM : M < w.heap.size) (hc : w.cell? ⟨M, 0, none⟩ = some (.int .i64 y)) :
    Calls Try.prog 108 #[.slice ab n cap2, .func (.func 112) #[] #[.pointer (some ⟨M, 0, none⟩)]] w fun e w' => e = .returned (.bool (anyF (fun k => decide ((cs.getD k noComp).q = y)) n 0)) ∧ Below w.heap.size w w' := by
  have hi := idx_q M y ab n cap cap2 cs hn hl w h hM hc
  generalize anyF (fun k => decide ((cs.getD k noComp).q = y)) n 0 = b at *
  go_enter Try.func108, Try.ntmps108
  go_wp2_with (go_at_call 140; refine hi.mono ?_; rintro e w1 ⟨⟨r, rfl, hr⟩, hb1⟩)
  go_ret
  exact ⟨by first | rfl | rw [← hr]; rfl, hb1⟩
/-- A component's error: its id, its place, an id twice. -/
def compE (cs : List CompArg) (i : Nat) (x : CompArg) : Int := if 0 ≤ x.id ∧ x.id ≤ 255 ∧ anyF (fun k => decide ((cs.getD k noComp).id = x.id)) i 0 = false ∧ 0 ≤ x.q ∧ x.q < 4 then 0 else 7
theorem img_comps1 (N : Nat) (xw xh : Int) (qu tu : Value) (a : Addr) (cap : Nat) (cs : List CompArg) (hl : cs.length ≤ 20) (i : Nat) (hi : i < cs.length) (hcap : i ≤ cap) (w : World) (bN : Blk w N #[.int .i64 xw, .int .i64 xh, .slice (some a) cs.length cap, qu, tu] 26) (h : IsComps w (.slice (some a) cs.length cap) cs) :
    Calls Try.prog 107 #[.int .i64 i, .agg #[.int .i64 (cs[i]'hi).id, .int .i64 (cs[i]'hi).h, .int .i64 (cs[i]'hi).v, .int .i64 (cs[i]'hi).q, .int .i64 (cs[i]'hi).c, .int .i64 (cs[i]'hi).r, (cs[i]'hi).u], .pointer (some ⟨N, 0, none⟩)] w fun r w' => r = .returned (.int .i64 (compE cs i (cs[i]'hi))) ∧ Below w.heap.size w w' := by
  obtain ⟨M, hM⟩ : ∃ M, M = w.heap.size := ⟨_, rfl⟩
  have HM := Lib.hid hM
  rw [← hM]
  have hNM : N < M := by rw [hM]; exact bN.lt
  have hte := fun (b : Bool) W => img_test b 7 W
  have hca : ∀ W, IsComps W (.slice (some a) cs.length cap) cs → M < W.heap.size → W.cell? ⟨M, 0, none⟩ = some (.int .i64 (cs[i]'hi).id) → _ := fun W h1 h2 h3 => has_id M (cs[i]'hi).id (some a) i cap cap cs (Nat.le_of_lt hi) (by omega) W h1 h2 h3
  have hu : ∃ ub un uc, (cs[i]'hi).u = .slice ub un uc := by
    obtain ⟨ub, uc, hu, _⟩ := (h.ok _ (List.getElem_mem hi)).ar.len
    exact ⟨ub, _, uc, hu⟩
  obtain ⟨ub, un, uc, hu⟩ := hu
  unfold compE
  rw [hu]
  generalize (cs[i]'hi).id = x0 at *
  generalize (cs[i]'hi).h = x1 at *
  generalize (cs[i]'hi).v = x2 at *
  generalize (cs[i]'hi).q = x3 at *
  generalize (cs[i]'hi).c = x4 at *
  generalize (cs[i]'hi).r = x5 at *
  generalize anyF (fun k => decide ((cs.getD k noComp).id = x0)) i 0 = tw at *
  have hbe : Below w.heap.size w (w.alloc (.cells #[.int .i64 x0, .int .i64 x1, .int .i64 x2, .int .i64 x3, .int .i64 x4, .int .i64 x5, .slice ub un uc] 63)) := (Below.refl _ _).alloc (Nat.le_refl _) _
  have j0 : (0 : Int) ≤ (i : Int) := by omega
  have j1 : (i : Int) ≤ (cap : Int) := by omega
  have hcs : (decide (0 ≤ x0) = false ∧ ¬ (0 ≤ x0 ∧ x0 ≤ 255 ∧ tw = false ∧ 0 ≤ x3 ∧ x3 < 4)) ∨ (decide (0 ≤ x0) = true ∧ decide (x0 ≤ 255) = false ∧ ¬ (0 ≤ x0 ∧ x0 ≤ 255 ∧ tw = false ∧ 0 ≤ x3 ∧ x3 < 4)) ∨ (decide (0 ≤ x0) = true ∧ decide (x0 ≤ 255) = true ∧ tw = true ∧ ¬ (0 ≤ x0 ∧ x0 ≤ 255 ∧ tw = false ∧ 0 ≤ x3 ∧ x3 < 4)) ∨ (decide (0 ≤ x0) = true ∧ decide (x0 ≤ 255) = true ∧ tw = false ∧ decide (0 ≤ x3) = false ∧ ¬ (0 ≤ x0 ∧ x0 ≤ 255 ∧ tw = false ∧ 0 ≤ x3 ∧ x3 < 4)) ∨ (decide (0 ≤ x0) = true ∧ decide (x0 ≤ 255) = true ∧ tw = false ∧ decide (0 ≤ x3) = true ∧ decide (x3 < 4) = false ∧ ¬ (0 ≤ x0 ∧ x0 ≤ 255 ∧ tw = false ∧ 0 ≤ x3 ∧ x3 < 4)) ∨ (decide (0 ≤ x0) = true ∧ decide (x0 ≤ 255) = true ∧ tw = false ∧ decide (0 ≤ x3) = true ∧ decide (x3 < 4) = true ∧ (0 ≤ x0 ∧ x0 ≤ 255 ∧ tw = false ∧ 0 ≤ x3 ∧ x3 < 4)) := by
    simp only [decide_eq_true_eq, decide_eq_false_iff_not]
    cases tw <;> simp <;> omega
  have hR : ∃ R, (if 0 ≤ x0 ∧ x0 ≤ 255 ∧ tw = false ∧ 0 ≤ x3 ∧ x3 < 4 then (0 : Int) else 7) = R := ⟨_, rfl⟩
  obtain ⟨R, hR⟩ := hR
  rw [hR]
  clear hM
  rcases hcs with ⟨t1, hn⟩ | ⟨t1, t2, hn⟩ | ⟨t1, t2, rfl, hn⟩ | ⟨t1, t2, rfl, t4, hn⟩ | ⟨t1, t2, rfl, t4, t5, hn⟩ | ⟨t1, t2, rfl, t4, t5, hn⟩
  all_goals
    first | rw [if_neg hn] at hR | rw [if_pos hn] at hR
    subst hR
    clear hn
    go_enter Try.func107, Try.ntmps107
    go_upto_region 1 with fail
    rw [← HM.out]
    refine wp_world (fun W => Blk W M #[.int .i64 x0, .int .i64 x1, .int .i64 x2, .int .i64 x3, .int .i64 x4, .int .i64 x5, .slice ub un uc] 63 ∧ Blk W N #[.int .i64 xw, .int .i64 xh, .slice (some a) cs.length cap, qu, tu] 26 ∧ IsComps W (.slice (some a) cs.length cap) cs ∧ Below M w W) ⟨Blk.new' _ _ _ HM.out, bN.below hbe bN.lt, h.below hbe, by rw [HM.out]; exact hbe⟩ ?_
    rintro W ⟨bM, bN2, h2, hB⟩
    have q2 : W.cell? ⟨N, 2, none⟩ = some (.slice (some a) cs.length cap) := bN2.cell 2
    have p0 : W.cell? ⟨M, 0, none⟩ = some (.int .i64 x0) := bM.cell 0
    have hcall := hca W h2 bM.lt p0
    go_wp2_with (first | (go_at_call 108; refine hcall.mono ?_; rintro r w1 ⟨rfl, hb1⟩; have hC := hB.trans (hb1.mono (Nat.le_of_lt bM.lt)); have bM2 := bM.below hb1 bM.lt; have p0' : w1.cell? ⟨M, 0, none⟩ = some (.int .i64 x0) := bM2.cell 0; have p3' : w1.cell? ⟨M, 3, none⟩ = some (.int .i64 x3) := bM2.cell 3) | (go_at_call 110; refine (hte _ _).mono ?_; rintro r w2 ⟨rfl, rfl⟩))
    go_ret
    exact ⟨rfl, hC⟩
end Go.Proofs.Ytgmhhocpdfdplaa
/- Package image: comps. -/
namespace Go.Proofs.Ytgmhhocpdfdplaa
open Go.RowKit
set_option maxRecDepth 100000
set_option maxHeartbeats 4000000
theorem firstE_congr (e e' : Nat → Int) (n : Nat) : ∀ (f i : Nat), i + f ≤ n → (∀ k, k < n → e k = e' k) → firstE e f i = firstE e' f i := by
  intro f
  induction f with
  | zero => intro i _ _; rfl
  | succ f ih =>
    intro i h hk
    simp only [firstE]
    rw [hk i (by omega), ih (i + 1) (by omega) hk]
def compsE (cs : List CompArg) : Int := firstE (fun i => compE cs i (cs.getD i noComp)) cs.length 0
theorem img_comps (v : Value) (x : ImgArg) (w : World) (h : IsImg w v x) (hf : FewOk x) :
    Calls Try.prog 59 #[v] w fun r w' => r = .returned (.int .i64 (compsE x.cs)) ∧ Below w.heap.size w w' := by
  obtain ⟨rfl, -, -, hcs, -, -⟩ := h
  have hl := hf.c20
  obtain ⟨xw, xh, cu, qu, tu, cs, qs, ts⟩ := x
  simp only [ImgArg.val] at *
  obtain ⟨cb, ccap, hcu, hcc, -⟩ := hcs.el.len
  rw [List.length_map] at hcu hcc
  subst hcu
  have hbe : Below w.heap.size w (w.alloc (.cells #[.int .i64 xw, .int .i64 xh, .slice cb cs.length ccap, qu, tu] 26)) := (Below.refl _ _).alloc (Nat.le_refl _) _
  obtain ⟨N, hN⟩ : ∃ N, N = w.heap.size := ⟨_, rfl⟩
  have HN := Lib.hid hN
  rw [← hN]
  obtain ⟨R, hR⟩ : ∃ R, compsE cs = R := ⟨_, rfl⟩
  rw [hR]
  have HR := Lib.hid hR
  clear hf hN hR
  go_enter Try.func59, Try.ntmps59
  go_upto_region 1 with fail
  rw [← HN.out]
  refine wp_world (fun W => Blk W N #[.int .i64 xw, .int .i64 xh, .slice cb cs.length ccap, qu, tu] 26 ∧ IsComps W (.slice cb cs.length ccap) cs ∧ Below N w W) ⟨Blk.new' _ _ _ HN.out, hcs.below hbe, by rw [HN.out]; exact hbe⟩ ?_
  clear hcs hbe
  rintro W ⟨bN, hcs, hB⟩
  have q2 : W.cell? ⟨N, 2, none⟩ = some (.slice cb cs.length ccap) := bN.cell 2
  have hea := each_comps N cb ccap cs hl (fun i => compE cs i (cs.getD i noComp)) W hcs (fun i hi W' hb => by
    simp only [comp_getD hi]
    obtain ⟨a, rfl, -⟩ := hcs.at hi
    exact img_comps1 N xw xh qu tu a ccap cs hl i hi (by omega) W' (bN.below hb bN.lt) (hcs.below hb))
  have hr : firstE (fun i => compE cs i (cs.getD i noComp)) cs.length 0 = R := by rw [← HR.out]; rfl
  rw [hr] at hea
  clear hr HR
  go_wp2_with (go_at_call 106; refine hea.mono ?_; rintro r w1 ⟨rfl, hb1⟩; have hC := hB.trans (hb1.mono (Nat.le_of_lt bN.lt)))
  go_ret
  exact ⟨rfl, hC⟩
end Go.Proofs.Ytgmhhocpdfdplaa
