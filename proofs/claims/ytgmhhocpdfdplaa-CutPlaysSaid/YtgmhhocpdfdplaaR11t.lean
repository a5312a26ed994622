/- The reference's tables, walked. -/
import Derived.Test.YtgmhhocpdfdplaaGG
import Derived.BigQuiet
namespace Go.Proofs.Ytgmhhocpdfdplaa
open Go.RowKit
set_option maxRecDepth 100000
set_option maxHeartbeats 4000000
theorem firstE_five (e : Nat → Int) (h : ∀ k, e k = 0 ∨ e k = 5) : ∀ f i, firstE e f i = 0 ∨ firstE e f i = 5
  | 0, _ => .inl rfl
  | f + 1, i => by
    rcases h i with h0 | h0
    · rw [firstE_go e f i h0]; exact firstE_five e h f (i + 1)
    · exact .inr (by simp only [firstE, h0]; rfl)
/-- The image's box, and a table's. -/
structure RT (N K : Nat) (x : ImgArg) (q : QuantArg) (w W : World) : Prop where
  l : LI N x w W
  bK : Blk W K q.arr 39
theorem RT.below {N K : Nat} {x : ImgArg} {q : QuantArg} {w W W' : World} (h : RT N K x q w W) (hb : Below W.heap.size W W') : RT N K x q w W' := ⟨h.l.below hb, h.bK.below hb h.bK.lt⟩
theorem RT.drewN {N K : Nat} {x : ImgArg} {q : QuantArg} {w W : World} (h : RT N K x q w W) (n : Nat) : RT N K x q w (W.drewN n) := h.below (Below.drewN' (Below.refl _ _) n)
/-- What the second loop keeps. -/
def UsInv (K N n : Nat) (p : Nat → Bool) (ub : Bool) (x : ImgArg) (q : QuantArg) (w : World) (s5 s6 : Value) (wq : World) : Prop :=
  ∃ (k : Nat) (b : Bool), s5 = .bool b ∧ s6 = .int .i64 k ∧ k ≤ n ∧ (b || anyF p (n - k) k) = ub ∧ RT N K x q w wq
/-- What the third keeps. -/
def ZrInv (K N : Nat) (p : Nat → Bool) (zb : Bool) (x : ImgArg) (q : QuantArg) (w : World) (s7 : Value) (wq : World) : Prop :=
  ∃ k : Nat, s7 = .int .i64 k ∧ k ≤ 64 ∧ anyF p (64 - k) k = zb ∧ RT N K x q w wq
/-- What the fifth keeps. -/
def ThInv (N n : Nat) (p : Nat → Bool) (tb : Bool) (x : ImgArg) (w : World) (s9 s10 : Value) (wq : World) : Prop :=
  ∃ (k : Nat) (b : Bool), s9 = .bool b ∧ s10 = .int .i64 k ∧ k ≤ n ∧ (b || anyF p (n - k) k) = tb ∧ LI N x w wq
theorem tab_five {e : Nat → Int} {n i : Nat} {R c : Int} (hi : i < n) (hfe : firstE e n 0 = firstE e (n - i) i) (h5 : e i = 5) (hR : (if firstE e n 0 = 0 then c else firstE e n 0) = R) : R = 5 := by
  rw [hfe, show n - i = (n - (i + 1)) + 1 by omega, firstE_stop e _ i (by rw [h5]; decide), h5] at hR
  rw [← hR]; rfl
theorem tab_next {e : Nat → Int} {n i : Nat} (hi : i < n) (hfe : firstE e n 0 = firstE e (n - i) i) (h0 : e i = 0) : firstE e n 0 = firstE e (n - (i + 1)) (i + 1) := by
  rw [hfe, show n - i = (n - (i + 1)) + 1 by omega, firstE_go e _ i h0]
theorem any_next {p : Nat → Bool} {n k : Nat} (b : Bool) (hk : k < n) : (b || anyF p (n - k) k) = ((b || p k) || anyF p (n - (k + 1)) (k + 1)) := by
  rw [show n - k = (n - (k + 1)) + 1 by omega]
  show (b || (p k || _)) = _
  rw [Bool.or_assoc]
theorem idx_any (p : Nat → Bool) : ∀ f i, decide (0 ≤ idxF p f i) = anyF p f i
  | 0, _ => rfl
  | f + 1, i => by
    by_cases h : p i = true
    · rw [anyF_stop p f i h]; simp only [idxF, if_pos h]; exact decide_eq_true (by omega)
    · rw [Bool.not_eq_true] at h
      rw [anyF_go p f i h, ← idx_any p f (i + 1)]
      simp only [idxF, h]; rfl
theorem q_at (q : QuantArg) : q.arr[0]? = some (.int .i64 q.at_) := by simp [QuantArg.arr, QuantArg.cells]
theorem ref_tables (x : ImgArg) (hf : FewOk x) (w : World) (h : IsImg w x.val x) :
    Calls Try.prog 65 #[x.val] w fun r w' => r = .returned (.int .i64 (tablesE x)) ∧ Below w.heap.size w w' := by
  have hc20 := hf.c20
  have hq20 := hf.q20
  obtain ⟨cb, ccap, hcu⟩ := h.cs.len
  obtain ⟨qb, qcap, hqu⟩ := h.qs.len
  have HCU := Lib.hid hcu; have HQU := Lib.hid hqu
  have hL := LI.begin h
  obtain ⟨N, hN⟩ : ∃ N, N = w.heap.size := ⟨_, rfl⟩
  rw [← hN] at hL
  have HN := Lib.hid hN
  obtain ⟨e, he⟩ : ∃ e : Nat → Int, (fun i => quantE x.cs x.qs i (x.qs.getD i noQuant)) = e := ⟨_, rfl⟩
  obtain ⟨R, hR⟩ : ∃ R, tablesE x = R := ⟨_, rfl⟩
  rw [hR]
  unfold tablesE quantsE at hR
  rw [he] at hR
  have HR := Lib.hid hR
  have HE := Lib.hid (show ∀ i (hi : i < x.qs.length), e i = quantE x.cs x.qs i (x.qs[i]'hi) from fun i hi => by rw [← he]; simp only [quant_getD hi])
  clear hN h hcu hqu hR he
  unfold ImgArg.val
  go_enter Try.func65, Try.ntmps65
  go_upto_region 1 with fail
  refine wp_world (LI N x w) hL ?_
  rw [← HN.out]
  clear hL
  intro W hL
  go_wp2
  go_loopw [3] (fun iv wr => ∃ i : Nat, i ≤ x.qs.length ∧ iv = .int .i64 i ∧ firstE e x.qs.length 0 = firstE e (x.qs.length - i) i ∧ LI N x w wr) (fun iv _ => x.qs.length - (intOf iv).toNat)
  case atStart => exact ⟨0, Nat.zero_le _, rfl, rfl, hL⟩
  case round =>
    clear hL
    obtain ⟨i, hi, rfl, hfe, hL⟩ := hrel
    have q3 : wr.cell? ⟨N, 3, none⟩ = some (.slice qb x.qs.length qcap) := by rw [← HQU.out]; exact hL.bN.cell 3
    by_cases hlt : i < x.qs.length
    · have tl : decide (i < x.qs.length) = true := by simpa using hlt
      have hqs : ∀ W, LI N x w W → IsQuants W (.slice qb x.qs.length qcap) x.qs := fun W h => by have := h.img.qs; rwa [HQU.out] at this
      obtain ⟨a, rfl, -⟩ := (hqs wr hL).place hlt
      have j0 : (0 : Int) ≤ (i : Int) := by omega
      have j1 : (i : Int) < (x.qs.length : Int) := by omega
      have hei := HE.out i hlt
      have hq' := hqs wr hL
      have hx65 : (x.qs[i]'hlt).arr.size = 65 := QuantArg.arr_size (hq'.ok _ (List.getElem_mem hlt))
      have HFE := Lib.hid hfe
      have HQS := Lib.hid hqs
      have HEI := Lib.hid hei
      clear hfe hqs hei
      obtain ⟨K, hK⟩ : ∃ K, K = wr.heap.size := ⟨_, rfl⟩
      have HK := Lib.hid hK
      clear hK
      go_upto_region 5 with (first | (refine Great.wpList_runTo rfl _ rfl _ _ (q_load hq' hlt _ rfl rfl) ?_; simp only [Act.put, List.setIfInBounds_toArray, List.set_cons_zero, List.set_cons_succ]) | (refine Great.wpList_runTo rfl _ rfl _ _ (run_alloc_quant _ rfl) ?_; simp only [Act.put, List.setIfInBounds_toArray, List.set_cons_zero, List.set_cons_succ]) | (refine wpList_store_row rfl 39 _ _ rfl K _ (by rw [HK.out]; rfl) rfl 39 _ (Blk.new' _ _ _ HK.out) (by rw [hx65]; kernel_rfl) (by rw [hx65, zeroQuant_size]) (QuantArg.arr_one _) ?_; simp only [Act.put]))
      have hbK : Below wr.heap.size wr ((wr.alloc (.cells zeroQuant 39)).setRow K (x.qs[i]'hlt).arr) := Below.setRow ((Below.refl _ _).alloc (Nat.le_refl _) _) (Nat.le_of_eq HK.out.symm) _
      try rw [← HK.out]
      refine wp_world (RT N K x (x.qs[i]'hlt) w) ⟨hL.below hbK, (Blk.new' _ _ _ HK.out).row _⟩ ?_
      clear hbK hL q3 hq'
      intro W1 hR1
      obtain ⟨y, hy⟩ : ∃ y, (x.qs[i]'hlt).at_ = y := ⟨_, rfl⟩
      have k0 : ∀ W, RT N K x (x.qs[i]'hlt) w W → W.cell? ⟨K, 0, none⟩ = some (.int .i64 y) := fun W h => by rw [← hy, ← q_at]; exact h.bK.cell 0
      have K0 := Lib.hid k0
      have HY := Lib.hid hy
      clear k0 hy
      go_cut [46] from 23 to 46 (fun c wx => c = .bool (!(risesB x.qs i y)) ∧ RT N K x (x.qs[i]'hlt) w wx)
      case first =>
        have c0 := K0.out W1 hR1
        have q3 : W1.cell? ⟨N, 3, none⟩ = some (.slice (some a) x.qs.length qcap) := by rw [← HQU.out]; exact hR1.l.bN.cell 3
        by_cases h0 : y < 0
        · have t0 : decide (y < 0) = true := decide_eq_true h0
          have hb : risesB x.qs i y = false := decide_eq_false (by omega)
          have HB := Lib.hid hb
          clear hb h0
          go_quiet (fail)
          go_wp2_with fail
          go_meet
          exact ⟨by rw [HB.out]; rfl, hR1.drewN _⟩
        · have t0 : decide (y < 0) = false := decide_eq_false h0
          by_cases h1 : y > 3
          · have t1 : decide (y > 3) = true := decide_eq_true h1
            have hb : risesB x.qs i y = false := decide_eq_false (by omega)
            have HB := Lib.hid hb
            clear hb h0 h1
            go_quiet (fail)
            go_wp2_with fail
            go_meet
            exact ⟨by rw [HB.out]; rfl, hR1.drewN _⟩
          · have t1 : decide (y > 3) = false := decide_eq_false h1
            by_cases h2 : i = 0
            · have t2 : decide ((i : Int) > 0) = false := decide_eq_false (by omega)
              have t2' : decide (0 < i) = false := decide_eq_false (by omega)
              have hb : risesB x.qs i y = true := decide_eq_true ⟨by omega, by omega, .inl h2⟩
              have HB := Lib.hid hb
              clear hb h0 h1 h2
              go_quiet (fail)
              go_wp2_with fail
              go_meet
              exact ⟨by rw [HB.out]; rfl, hR1.drewN _⟩
            · have t2 : decide ((i : Int) > 0) = true := decide_eq_true (by omega)
              have t2' : decide (0 < i) = true := decide_eq_true (by omega)
              obtain ⟨m, hm⟩ : ∃ m : Nat, m = i - 1 := ⟨_, rfl⟩
              have hml : m < x.qs.length := by omega
              have em : (i : Int) - 1 = (m : Int) := by omega
              obtain ⟨a', ha', c1⟩ := (HQS.out W1 hR1.l).place hml
              cases ha'
              have hgd : (x.qs.getD (i - 1) noQuant).at_ = (x.qs[m]'hml).at_ := by rw [← hm, quant_getD hml]
              obtain ⟨z, hz⟩ : ∃ z, (x.qs[m]'hml).at_ = z := ⟨_, rfl⟩
              rw [hz] at c1 hgd
              have j2 : (0 : Int) ≤ (m : Int) := by omega
              have j3 : (m : Int) < (x.qs.length : Int) := by omega
              by_cases h3 : z ≥ y
              · have t3 : decide (z ≥ y) = true := decide_eq_true h3
                have hb : risesB x.qs i y = false := decide_eq_false (by rw [hgd]; omega)
                have HB := Lib.hid hb
                clear hb h0 h1 h2 h3 hgd hz hm
                go_quiet (fail)
                go_wp2_with fail
                go_meet
                exact ⟨by rw [HB.out]; rfl, hR1.drewN _⟩
              · have t3 : decide (z ≥ y) = false := decide_eq_false h3
                have hb : risesB x.qs i y = true := decide_eq_true ⟨by omega, by omega, .inr (by rw [hgd]; omega)⟩
                have HB := Lib.hid hb
                clear hb h0 h1 h2 h3 hgd hz hm
                go_quiet (fail)
                go_wp2_with fail
                go_meet
                exact ⟨by rw [HB.out]; rfl, hR1.drewN _⟩
      obtain ⟨rfl, hR2⟩ := hcut
      clear hR1
      by_cases hb : risesB x.qs i y = true
      · have tb : (!risesB x.qs i y) = false := by rw [hb]; rfl
        rw [tb]
        clear tb
        obtain ⟨ub, hub⟩ : ∃ ub, usedQ x.cs y = ub := ⟨_, rfl⟩
        have HUB := Lib.hid hub
        obtain ⟨p, hp⟩ : ∃ p : Nat → Bool, (fun k => decide ((x.cs.getD k noComp).q = y)) = p := ⟨_, rfl⟩
        have hany : anyF p x.cs.length 0 = ub := by rw [← hp]; exact hub
        have HANY := Lib.hid hany
        have HP := Lib.hid hp
        have HB := Lib.hid hb
        clear hub hany hp hb
        go_wp2
        obtain ⟨wo, hwo⟩ : ∃ wo : World, wo = wc := ⟨_, rfl⟩
        subst hwo
        go_loopw [5, 6] (fun s5 s6 wq => UsInv K N x.cs.length p ub x (x.qs[i]'hlt) w s5 s6 wq) (fun _ s6 _ => x.cs.length - (intOf s6).toNat)
        case atStart => exact ⟨0, false, rfl, rfl, Nat.zero_le _, HANY.out, hR2⟩
        case round =>
          clear hR2
          obtain ⟨k, b, rfl, rfl, hk, hany, hR3⟩ := hrel
          have q2 : wr.cell? ⟨N, 2, none⟩ = some (.slice cb x.cs.length ccap) := by rw [← HCU.out]; exact hR3.l.bN.cell 2
          by_cases hkl : k < x.cs.length
          · have tk : decide (k < x.cs.length) = true := by simpa using hkl
            have hcs : IsComps wr (.slice cb x.cs.length ccap) x.cs := by have := hR3.l.img.cs; rwa [HCU.out] at this
            obtain ⟨a2, rfl, -, -, -, c3, -⟩ := hcs.at hkl
            have c0 := K0.out wr hR3
            have k0 : (0 : Int) ≤ (k : Int) := by omega
            have k1 : (k : Int) < (x.cs.length : Int) := by omega
            have hpk : p k = decide ((x.cs[k]'hkl).q = y) := by rw [← HP.out]; simp only [comp_getD hkl]
            rw [any_next b hkl, hpk] at hany
            have HANY2 := Lib.hid hany
            clear hany hpk hcs
            generalize (x.cs[k]'hkl).q = z at *
            cases b
            · go_upto_region 11 with fail
              go_quiet (fail)
              go_wp2
              go_roundw
              case rel => exact ⟨k + 1, z == y, rfl, by go_num, by omega, by rw [← HANY2.out, Bool.false_or]; rfl, hR3.drewN _⟩
              case measure => simp [intOf]; omega
            · go_upto_region 11 with fail
              go_quiet (fail)
              go_wp2
              go_roundw
              case rel => exact ⟨k + 1, true, rfl, by go_num, by omega, by rw [← HANY2.out]; rfl, hR3.drewN _⟩
              case measure => simp [intOf]; omega
          · have tk : decide (k < x.cs.length) = false := by simpa using hkl
            rw [show x.cs.length - k = 0 by omega] at hany
            obtain rfl : b = ub := by rw [← hany]; exact (Bool.or_false b).symm
            clear hany HANY HP
            cases b
            · have h5 : e i = 5 := by rw [HEI.out]; unfold quantE; rw [HY.out, HUB.out]; simp
              have hR5 := tab_five hlt HFE.out h5 HR.out
              clear h5
              subst hR5
              go_wp2
              go_ret
              exact ⟨rfl, hR3.l.hB⟩
            · obtain ⟨zb, hzb⟩ : ∃ zb, zeroQ (x.qs[i]'hlt) = zb := ⟨_, rfl⟩
              have HZB := Lib.hid hzb
              obtain ⟨pz, hpz⟩ : ∃ pz : Nat → Bool, (fun k => decide ((x.qs[i]'hlt).q.getD k 0 = 0)) = pz := ⟨_, rfl⟩
              have hza : anyF pz 64 0 = zb := by rw [← hpz]; exact hzb
              have HZA := Lib.hid hza
              have HPZ := Lib.hid hpz
              clear hza hpz hzb
              go_wp2
              obtain ⟨wo, hwo⟩ : ∃ wo : World, wo = wr := ⟨_, rfl⟩
              subst hwo
              go_loopw [7] (fun s7 wq => ZrInv K N pz zb x (x.qs[i]'hlt) w s7 wq) (fun s7 _ => 64 - (intOf s7).toNat)
              case atStart => exact ⟨0, rfl, Nat.zero_le _, HZA.out, hR3⟩
              case round =>
                clear hR3
                obtain ⟨k, rfl, hk, hany, hR3⟩ := hrel
                by_cases hkl : k < 64
                · have tk : decide ((k : Int) < 64) = true := by simp; omega
                  have tk2 : decide (k < 64) = true := by simpa using hkl
                  have hok : (x.qs[i]'hlt).Ok := hR3.l.img.qs.ok _ (List.getElem_mem hlt)
                  have c1 : wr.cell? ⟨K, 1 + k, none⟩ = some (.int .u16 ((x.qs[i]'hlt).q.getD k 0)) := by rw [hR3.bK.cell (1 + k)]; exact q_arr_get hok k hkl
                  have k0 : (0 : Int) ≤ (k : Int) := by omega
                  have k1 : (k : Int) < 64 := by omega
                  have hpk : pz k = decide ((x.qs[i]'hlt).q.getD k 0 = 0) := by rw [← HPZ.out]
                  rw [show 64 - k = 64 - (k + 1) + 1 by omega] at hany
                  have HAN := Lib.hid hany
                  clear hany hok
                  generalize (x.qs[i]'hlt).q.getD k 0 = z at *
                  by_cases hz : z = 0
                  · have hany := HAN.out
                    rw [anyF_stop pz _ k (by rw [hpk]; exact decide_eq_true hz)] at hany
                    have h5 : e i = 5 := by rw [HEI.out]; unfold quantE; rw [HZB.out, ← hany]; simp
                    have hR5 := tab_five hlt HFE.out h5 HR.out
                    clear h5 hany HAN hpk
                    subst hR5
                    subst hz
                    go_wp2
                    go_ret
                    exact ⟨rfl, hR3.l.hB⟩
                  · have hany := HAN.out
                    rw [anyF_go pz _ k (by rw [hpk]; exact decide_eq_false hz)] at hany
                    have HAN2 := Lib.hid hany
                    have tz : (z == 0) = false := beq_eq_false_iff_ne.2 hz
                    have tz2 : decide (z = 0) = false := decide_eq_false hz
                    clear hany HAN hpk hz
                    go_wp2
                    go_roundw
                    case rel => exact ⟨k + 1, by go_num, by omega, HAN2.out, hR3⟩
                    case measure => simp [intOf]; omega
                · have tk : decide ((k : Int) < 64) = false := by simp; omega
                  have tk2 : decide (k < 64) = false := by simpa using hkl
                  rw [show 64 - k = 0 by omega] at hany
                  obtain rfl : zb = false := hany.symm
                  have h0 : e i = 0 := by rw [HEI.out]; unfold quantE; rw [HY.out, HB.out, HZB.out, HUB.out]; simp
                  have HN2 := Lib.hid (tab_next hlt HFE.out h0)
                  clear h0 hany
                  go_wp2
                  go_roundw
                  case rel => exact ⟨i + 1, by omega, by go_num, HN2.out, hR3.l⟩
                  case measure => simp [intOf]; omega
      · rw [Bool.not_eq_true] at hb
        have tb : (!risesB x.qs i y) = true := by rw [hb]; rfl
        have h5 : e i = 5 := by rw [HEI.out]; unfold quantE; rw [HY.out, hb]; rfl
        have hR5 := tab_five hlt HFE.out h5 HR.out
        rw [tb]
        clear tb hb h5
        subst hR5
        go_wp2
        go_ret
        exact ⟨rfl, hR2.l.hB⟩
    · have tl : decide (i < x.qs.length) = false := by simpa using hlt
      rw [show x.qs.length - i = 0 by omega] at hfe
      have hR := HR.out
      rw [if_pos (show firstE e x.qs.length 0 = 0 from hfe)] at hR
      obtain ⟨e2, he2⟩ : ∃ e2 : Nat → Int, (fun i => compTE x.qs (x.cs.getD i noComp)) = e2 := ⟨_, rfl⟩
      unfold compsTE at hR
      rw [he2] at hR
      have HR2 := Lib.hid hR
      have HE2 := Lib.hid (show ∀ i (hi : i < x.cs.length), e2 i = compTE x.qs (x.cs[i]'hi) from fun i hi => by rw [← he2]; simp only [comp_getD hi])
      clear hR he2 hfe
      go_wp2
      clear HR HE q3
      obtain ⟨wo, hwo⟩ : ∃ wo : World, wo = wr := ⟨_, rfl⟩
      subst hwo
      go_loopw [8] (fun iv wr => ∃ i : Nat, i ≤ x.cs.length ∧ iv = .int .i64 i ∧ firstE e2 (x.cs.length - i) i = R ∧ LI N x w wr) (fun iv _ => x.cs.length - (intOf iv).toNat)
      case atStart => exact ⟨0, Nat.zero_le _, rfl, HR2.out, hL⟩
      case round =>
        clear hL hlt hi tl
        obtain ⟨i, hi, rfl, hf2, hL⟩ := hrel
        have q2 : wr.cell? ⟨N, 2, none⟩ = some (.slice cb x.cs.length ccap) := by rw [← HCU.out]; exact hL.bN.cell 2
        by_cases hlt : i < x.cs.length
        · have tl : decide (i < x.cs.length) = true := by simpa using hlt
          obtain ⟨y, hy⟩ : ∃ y, (x.cs[i]'hlt).q = y := ⟨_, rfl⟩
          obtain ⟨p, hp⟩ : ∃ p : Nat → Bool, (fun k => decide ((x.qs.getD k noQuant).at_ = y)) = p := ⟨_, rfl⟩
          obtain ⟨tb, htb⟩ : ∃ tb, anyF p x.qs.length 0 = tb := ⟨_, rfl⟩
          have hei : e2 i = if tb = true then 0 else 5 := by
            rw [HE2.out i hlt, ← htb, ← idx_any, ← hp]
            unfold compTE tabI
            simp only [hy, decide_eq_true_eq]
          rw [show x.cs.length - i = x.cs.length - (i + 1) + 1 by omega] at hf2
          have HY := Lib.hid hy
          have HP := Lib.hid hp
          have HTB := Lib.hid htb
          have HEI := Lib.hid hei
          have HF2 := Lib.hid hf2
          have HCA := Lib.hid (show ∀ W, LI N x w W → ∃ a, cb = some a ∧ W.cell? ⟨(a.add (i * 7)).block, (a.add (i * 7)).off + 3, none⟩ = some (.int .i64 y) from fun W h => by
            have hcs : IsComps W (.slice cb x.cs.length ccap) x.cs := by have := h.img.cs; rwa [HCU.out] at this
            obtain ⟨a2, ha, -, -, -, c3, -⟩ := hcs.at hlt
            exact ⟨a2, ha, by rw [← hy]; exact c3⟩)
          have j0 : (0 : Int) ≤ (i : Int) := by omega
          have j1 : (i : Int) < (x.cs.length : Int) := by omega
          clear hy hp htb hei hf2
          go_wp2
          clear q2
          obtain ⟨wo2, hwo2⟩ : ∃ wo2 : World, wo2 = wr := ⟨_, rfl⟩
          subst hwo2
          go_loopw [9, 10] (fun s9 s10 wq => ThInv N x.qs.length p tb x w s9 s10 wq) (fun _ s10 _ => x.qs.length - (intOf s10).toNat)
          case atStart => exact ⟨0, false, rfl, rfl, Nat.zero_le _, HTB.out, hL⟩
          case round =>
            clear hL
            obtain ⟨k, b, rfl, rfl, hk, hany, hL⟩ := hrel
            have q2 : wr.cell? ⟨N, 2, none⟩ = some (.slice cb x.cs.length ccap) := by rw [← HCU.out]; exact hL.bN.cell 2
            have q3 : wr.cell? ⟨N, 3, none⟩ = some (.slice qb x.qs.length qcap) := by rw [← HQU.out]; exact hL.bN.cell 3
            by_cases hkl : k < x.qs.length
            · have tk : decide (k < x.qs.length) = true := by simpa using hkl
              have hqs : IsQuants wr (.slice qb x.qs.length qcap) x.qs := by have := hL.img.qs; rwa [HQU.out] at this
              obtain ⟨aq, rfl, c0⟩ := hqs.place hkl
              obtain ⟨ac, rfl, c3⟩ := HCA.out wr hL
              have k0 : (0 : Int) ≤ (k : Int) := by omega
              have k1 : (k : Int) < (x.qs.length : Int) := by omega
              have hpk : p k = decide ((x.qs[k]'hkl).at_ = y) := by rw [← HP.out]; simp only [quant_getD hkl]
              rw [any_next b hkl, hpk] at hany
              have HANY2 := Lib.hid hany
              clear hany hpk hqs
              generalize (x.qs[k]'hkl).at_ = z at *
              cases b
              · go_upto_region 26 with fail
                go_quiet (fail)
                go_wp2
                go_roundw
                case rel => exact ⟨k + 1, z == y, rfl, by go_num, by omega, by rw [← HANY2.out, Bool.false_or]; rfl, hL.below (Below.drewN' (Below.refl _ _) _)⟩
                case measure => simp [intOf]; omega
              · go_upto_region 26 with fail
                go_quiet (fail)
                go_wp2
                go_roundw
                case rel => exact ⟨k + 1, true, rfl, by go_num, by omega, by rw [← HANY2.out]; rfl, hL.below (Below.drewN' (Below.refl _ _) _)⟩
                case measure => simp [intOf]; omega
            · have tk : decide (k < x.qs.length) = false := by simpa using hkl
              rw [show x.qs.length - k = 0 by omega] at hany
              obtain rfl : b = tb := by rw [← hany]; exact (Bool.or_false b).symm
              clear hany
              cases b
              · have h5 := HF2.out
                rw [firstE_stop e2 _ i (by rw [HEI.out]; decide), HEI.out] at h5
                obtain rfl : R = 5 := h5.symm
                go_wp2
                go_ret
                exact ⟨rfl, hL.hB⟩
              · have h0 := HF2.out
                rw [firstE_go e2 _ i (by rw [HEI.out]; rfl)] at h0
                have HF3 := Lib.hid h0
                clear h0
                go_wp2
                go_roundw
                case rel => exact ⟨i + 1, by omega, by go_num, HF3.out, hL⟩
                case measure => simp [intOf]; omega
        · have tl : decide (i < x.cs.length) = false := by simpa using hlt
          rw [show x.cs.length - i = 0 by omega] at hf2
          obtain rfl : R = 0 := hf2.symm
          go_wp2
          go_ret
          exact ⟨rfl, hL.hB⟩
end Go.Proofs.Ytgmhhocpdfdplaa
