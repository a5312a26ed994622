/- aquatintlaw22.PastEldest, walked. -/
import Derived.Test.YtcdfamllamjpeaaEldest
import Derived.Test.YtcdfamllamjpeaaRowApp
import Derived.Test.YtcdfamllamjpeaaPastLaw
import Derived.Test.YtcdfamllamjpeaaOpenRows
import Derived.Test.YtcdfamllamjpeaaRows
namespace Go.Proofs.Ytcdfamllamjpeaa
open Go.RowKit Go.ChangeShapes
set_option maxRecDepth 100000
namespace Pa
theorem row_ne {W : World} {lo lo' n n' size size' : Nat} {e e' : TypeId} {v v' : Value} {xs xs' : List Value} (h : Row W lo e size v n xs) (h' : Row W lo' e' size' v' n' xs') (he : e ≠ e') {g : Nat} (hg : v.ownBlock = some g) : v'.ownBlock ≠ some g := by
  intro hg'
  rcases h'.2 with ⟨h1, _⟩ | ⟨k, _, _, h1, _, h3, _⟩
  · rw [h1] at hg'; cases hg'
  · rw [h1] at hg'
    cases hg'
    exact h.typed h3 (fun e2 => he e2.symm) _ hg rfl
theorem At.grown {W W' : World} {b most : Nat} {u : Value} {l : List Ent} {lo n size : Nat} {e : TypeId} {v : Value} {xs : List Value} (h : At W b most u l) (hv : Row W lo e size v n xs) (h1 : e ≠ 61) (h2 : e ≠ 29) (hg : W.grownBy W' v.ownBlock) : At W' b most u l :=
  ⟨h.box.grown hg (fun e => hv.typed h.box (fun e2 => h1 e2.symm) b e.symm rfl), h.row.grown hg (fun _ hu e => row_ne h.row hv (fun e2 => h2 e2.symm) hu e.symm)⟩
/-- A pointer more. -/
theorem Ptrs.push {W W' : World} {N : Nat} {v v' : Value} {ls : List (List Ent)} {ps : List Value} {p : Value} {l : List Ent} (hR : Row W N 24 1 v ls.length ps) (hP : ∀ j, j < ls.length → ∃ p, ps[j]? = some p ∧ Ptr W p (ls.getD j [])) (hp : Ptr W p l)
    (hg : W.grownBy W' v.ownBlock) (hR' : Row W' N 24 1 v' (ls.length + 1) (ps ++ [p])) : Ptrs W' N v' (ls ++ [l]) := by
  have keep : ∀ {q l}, Ptr W q l → Ptr W' q l := by
    intro q l h
    rcases h with h | ⟨b, u, h1, h2⟩
    · exact .inl h
    · exact .inr ⟨b, u, h1, h2.grown hR (by decide) (by decide) hg⟩
  refine ⟨ps ++ [p], by simpa using hR', fun j hj => ?_⟩
  have hl := hR.1
  by_cases hjl : j < ls.length
  · obtain ⟨q, hq, hPq⟩ := hP j hjl
    refine ⟨q, by rw [List.getElem?_append_left (by omega)]; exact hq, ?_⟩
    rw [List.getD_eq_getElem?_getD, List.getElem?_append_left hjl, ← List.getD_eq_getElem?_getD]
    exact keep hPq
  · simp at hj
    obtain rfl : j = ls.length := by omega
    refine ⟨p, by rw [List.getElem?_append_right (by omega)]; simp [show ls.length - ps.length = 0 by omega], ?_⟩
    rw [List.getD_eq_getElem?_getD, List.getElem?_append_right (Nat.le_refl _)]
    simpa using keep hp
end Pa
namespace pastEldest
def ents (r : List Int) : List Pa.Ent := r.map fun x => (x, 0, 0)
theorem ents_take (r : List Int) (j : Nat) (h : j < r.length) : ents (r.take j) ++ [(r.getD j 0, 0, 0)] = ents (r.take (j + 1)) := by
  unfold ents
  rw [List.take_add_one, List.map_append]
  simp [h]
theorem ents_get (rs : List (List Int)) (k : Nat) : (rs.map ents).getD k [] = ents (rs.getD k []) := by
  simp only [List.getD_eq_getElem?_getD, List.getElem?_map]
  cases rs[k]? <;> rfl
theorem eldTo_take (ls : List (List Pa.Ent)) (k : Nat) : ∀ j, j ≤ k → Pa.eldTo (ls.take k) j = Pa.eldTo ls j := by
  intro j
  induction j with
  | zero => intro _; rfl
  | succ j ih =>
    intro h
    simp only [Pa.eldTo]
    rw [ih (by omega)]
    congr 1
    simp [List.getD_eq_getElem?_getD, show j < k by omega]
theorem eldTo_app (ls : List (List Pa.Ent)) (x : List Pa.Ent) : ∀ j, j ≤ ls.length → Pa.eldTo (ls ++ [x]) j = Pa.eldTo ls j := by
  intro j
  induction j with
  | zero => intro _; rfl
  | succ j ih =>
    intro h
    simp only [Pa.eldTo]
    rw [ih (by omega)]
    congr 1
    simp [List.getD_eq_getElem?_getD, List.getElem?_append_left (show j < ls.length by omega)]
set_option maxHeartbeats 4000000 in
theorem walk (v : Value) (rs : List (List Int)) (w : World) (hv : IntRows w .i64 v rs) :
    Calls Try.prog 4 #[v] w fun e w' => e = .returned (.bool true) ∧ Below w.heap.size w w' := by
  obtain ⟨N, hN⟩ : ∃ N, N = w.heap.size := ⟨_, rfl⟩
  have HN := Lib.hid hN
  have hR0 : Below N w w ∧ N ≤ w.heap.size := ⟨Below.refl _ _, by omega⟩
  rw [← hN]
  clear hN
  have hmax := hv.1
  obtain ⟨bv, cv, rfl⟩ := hv.len
  by_cases hlen : 20 < rs.length
  · go_enter Try.func4, Try.ntmps4
    have hmx : rs.length ≤ 9223372036854775807 := by simp only [maxLen] at hmax; omega
    go_wp2_with (first
      | (go_at_call 8; refine (awake22 _).mono ?_; rintro e w1 ⟨rfl, hb⟩; replace hR0 : Below N w w1 ∧ N ≤ w1.heap.size := ⟨hR0.1.trans (hb.mono hR0.2), Nat.le_trans hR0.2 hb.size⟩))
    go_ret
    exact ⟨rfl, hR0.1⟩
  · have hmx : rs.length ≤ 20 := by omega
    go_enter Try.func4, Try.ntmps4
    go_wp2_with (first
      | (go_at_call 8; refine (awake22 _).mono ?_; rintro e w1 ⟨rfl, hb⟩; replace hR0 : Below N w w1 ∧ N ≤ w1.heap.size := ⟨hR0.1.trans (hb.mono hR0.2), Nat.le_trans hR0.2 hb.size⟩))
    go_loopw [3, 4, 5, 6, 7] (fun al a s f i wr => ∃ k : Nat, k ≤ rs.length ∧ i = .int .i64 k ∧ a = .int .i64 (Pa.eldTo (rs.map ents) k).1 ∧ s = .int .i64 (Pa.eldTo (rs.map ents) k).2.1 ∧ f = .bool (Pa.eldTo (rs.map ents) k).2.2 ∧ Pa.Ptrs wr N al ((rs.map ents).take k) ∧ Below N w wr ∧ N ≤ wr.heap.size) (fun _ _ _ _ i _ => rs.length - (intOf i).toNat)
    case atStart => exact ⟨0, Nat.zero_le _, rfl, rfl, rfl, rfl, ⟨[], Row.nil _ _ _ _, fun j hj => by simp at hj⟩, hR0.1, hR0.2⟩
    case round =>
      clear hR0
      obtain ⟨k, hk, rfl, rfl, rfl, rfl, hP, hB, hNr⟩ := hrel
      obtain ⟨W1, rfl⟩ : ∃ W1, W1 = wr := ⟨_, rfl⟩
      by_cases hlt : k < rs.length
      · obtain ⟨a, cap, u, hsl, hcu, hI⟩ := hv.at (w' := W1) (by rw [← HN.out]; exact hB) hlt
        obtain ⟨rfl, rfl⟩ : bv = some a ∧ cv = cap := by simpa using hsl
        clear hsl
        obtain ⟨r, hr⟩ : ∃ r, rs.getD k [] = r := ⟨_, rfl⟩
        rw [hr] at hI
        have hrm := hI.1
        obtain ⟨bu, cu, rfl⟩ := hI.len
        have ik0 : (0 : Int) ≤ (k : Int) := by omega
        have ik1 : (k : Int) < (rs.length : Int) := by omega
        by_cases hrl : 20 < r.length
        · have hrx : r.length ≤ 9223372036854775807 := by simp only [maxLen] at hrm; omega
          have tr : decide (20 < (r.length : Int)) = true := by simp; omega
          go_wp2_with fail
          go_ret
          exact ⟨rfl, hB⟩
        · have hrx : r.length ≤ 20 := by omega
          have tr : decide (20 < (r.length : Int)) = false := by simp; omega
          go_upto_region 11 with (go_at_call 9; refine (past_new 64 (by omega) W1).mono ?_; rintro e w2 ⟨rfl, hA, hb⟩)
          obtain ⟨M, hM⟩ : ∃ M, M = W1.heap.size := ⟨_, rfl⟩
          have HM := Lib.hid hM
          have hNM : N ≤ M := by omega
          rw [← hM] at hA hb ⊢
          clear hM
          have hO : Pa.Own M W1 w2 M 64 (.slice none 0 0) (ents (r.take 0)) := ⟨hb, by rw [HM.out]; rw [← HM.out]; exact Nat.le_of_lt hA.box.lt, by simpa [ents] using hA, Nat.le_refl _, fun g hg => by cases hg⟩
          clear hb hA
          go_wp2_with fail
          go_loopw [10] (fun i wj => ∃ (j : Nat) (u' : Value), j ≤ r.length ∧ i = .int .i64 j ∧ Pa.Own M W1 wj M 64 u' (ents (r.take j))) (fun i _ => r.length - (intOf i).toNat)
          case atStart => exact ⟨0, _, Nat.zero_le _, rfl, hO⟩
          case round =>
            clear hO
            obtain ⟨j, u', hj, rfl, hO⟩ := hrel
            have hbj : Below W1.heap.size W1 wr := by rw [← HM.out]; exact hO.1
            have hcj := (hbj.cell (p := a.add k) (World.block_lt_of_cell? W1 _ hcu)).trans hcu
            have hIj := hI.below hbj
            by_cases hjl : j < r.length
            · obtain ⟨ad, rfl⟩ : ∃ ad, bu = some ad := by
                rcases hIj.2.2 with ⟨_, h0⟩ | ⟨ad, c, h, _⟩
                · subst h0; simp at hjl
                · simp only [Value.slice.injEq] at h; exact ⟨ad, h.1⟩
              have cj := hIj.at hjl
              obtain ⟨x, hx⟩ : ∃ x, r.getD j 0 = x := ⟨_, rfl⟩
              rw [hx] at cj
              have HX := Lib.hid hx
              clear hx
              have ij0 : (0 : Int) ≤ (j : Int) := by omega
              have ij1 : (j : Int) < (r.length : Int) := by omega
              have hp := own_push_room (x, 0, 0) (by simp [ents]; omega) (by omega) hO
              unfold Pa.val at hp
              go_wp2_with (go_at_call 10; refine hp.mono ?_; rintro e w4 ⟨rfl, u4, hO4, _⟩)
              refine ⟨⟨j + 1, u4, by omega, by go_num, ?_⟩, by simp [intOf]; omega⟩
              rw [← ents_take r j hjl, HX.out]
              exact hO4
            · obtain rfl : j = r.length := by omega
              rw [List.take_length] at hO
              have hAw := hO.2.2.1
              have hBw : Below N w wr := hB.trans (hbj.mono (by rw [← HM.out]; exact hNM))
              have hNw : N ≤ wr.heap.size := Nat.le_trans hNM hO.2.1
              have hPw := hP.below hbj
              have hstep : (rs.map ents).take k ++ [ents r] = (rs.map ents).take (k + 1) := by
                rw [List.take_add_one]
                simp only [List.getElem?_map]
                rw [List.getElem?_eq_getElem hlt]
                simp only [Option.map_some, Option.toList]
                rw [← hr, List.getD_eq_getElem?_getD, List.getElem?_eq_getElem hlt]
                rfl
              have hst : Pa.eldTo (rs.map ents) (k + 1) = Pa.eld (Pa.eldTo (rs.map ents) k) k (ents r) := by
                simp only [Pa.eldTo]
                rw [ents_get, hr]
              obtain ⟨⟨a0, s0, f0⟩, hs0⟩ : ∃ s, Pa.eldTo (rs.map ents) k = s := ⟨_, rfl⟩
              rw [hs0] at hst ⊢
              clear hO hP hs0
              obtain ⟨E, hE⟩ : ∃ E, ents r = E := ⟨_, rfl⟩
              rw [hE] at hAw hstep hst
              by_cases hr0 : r.length = 0
              · obtain rfl : r = [] := List.eq_nil_of_length_eq_zero hr0
                have hst' : Pa.eldTo (rs.map ents) (k + 1) = (a0, s0, f0) := by rw [hst, ← hE]; rfl
                clear hst
                go_upto_region 19 with fail
                obtain ⟨ps, hR, hPs⟩ := hPw
                have hkl : ((rs.map ents).take k).length = k := by simp; omega
                have hBa : Below wr.heap.size wr (wr.alloc (.cells #[.pointer (some ⟨M, 0, none⟩)] 24)) := (Below.refl _ _).alloc (Nat.le_refl _) _
                have bc : Blk (wr.alloc (.cells #[.pointer (some ⟨M, 0, none⟩)] 24)) wr.heap.size #[.pointer (some ⟨M, 0, none⟩)] 24 := Blk.new _ _ _
                have hRa := hR.grow hBa
                rw [hkl] at hRa
                go_wp2_with (refine wpList_append_any _ rfl _ _ 36 rfl N 24 _ _ 1 8 rfl rfl rfl rfl rfl rfl _ k ps rfl hRa ⟨wr.heap.size, 0, none⟩ 1 _ [.pointer (some ⟨M, 0, none⟩)] rfl rfl bc.one (by simp [Value.oneCell']) (by simp only [maxLen]; omega) (by omega) (by simp; omega) (fun v' w4 hR4 hg4 hat4 => ?_))
                refine ⟨⟨k + 1, by omega, by go_num, by rw [hst'], by rw [hst'], by rw [hst'], ?_, Below.grown (hBw.alloc hNw _) (by simp; omega) hg4 (fun g e => (hRa.lt g e).1), by have := hg4.size; simp at this; omega⟩, by simp [intOf]; omega⟩
                have hpush := Pa.Ptrs.push (ls := (rs.map ents).take k) (by rw [hkl]; exact hRa) (fun j hj => let ⟨p, e, h⟩ := hPs j hj; ⟨p, e, h.below hBa⟩) (Pa.Ptr.below (l := E) (.inr ⟨M, u', rfl, hAw⟩) hBa) hg4 (by rw [hkl]; exact hR4)
                rw [hstep] at hpush
                exact hpush
              · obtain ⟨x0, r', hrr⟩ : ∃ x0 r', r = x0 :: r' := by
                  cases r with
                  | nil => exact absurd rfl hr0
                  | cons x0 r' => exact ⟨_, _, rfl⟩
                have hE' : E = (x0, 0, 0) :: ents r' := by rw [← hE, hrr]; rfl
                have hcj := (hbj.cell (p := a.add k) (World.block_lt_of_cell? W1 _ hcu)).trans hcu
                have hIj := hI.below hbj
                obtain ⟨ad, rfl⟩ : ∃ ad, bu = some ad := by
                  rcases hIj.2.2 with ⟨_, h0⟩ | ⟨ad, c, h, _⟩
                  · rw [h0] at hr0; exact absurd rfl hr0
                  · simp only [Value.slice.injEq] at h; exact ⟨ad, h.1⟩
                have cx := hIj.at (i := 0) (by omega)
                have e0 : ad.add 0 = ad := by simp [Addr.add]
                rw [e0] at cx
                have cy : wr.cell? ad = some (.int .i64 x0) := by rw [cx, hrr]; rfl
                clear cx hE hrr
                have hn0 : 0 < r.length := by omega
                have tjj : decide ((r.length : Int) < (r.length : Int)) = false := by simp
                have hn1 : (0 : Int) < (r.length : Int) := by omega
                have hn2 : decide ((0 : Int) < (r.length : Int)) = true := by simpa using hn0
                have hcase : (f0 = false ∨ x0 < s0) ∨ (f0 = true ∧ ¬ x0 < s0) := by
                  cases f0
                  · exact .inl (.inl rfl)
                  · by_cases h : x0 < s0
                    · exact .inl (.inr h)
                    · exact .inr ⟨rfl, h⟩
                rcases hcase with hyes | ⟨rfl, hno⟩
                · have hst' : Pa.eldTo (rs.map ents) (k + 1) = ((k : Int), x0, true) := by rw [hst, hE']; exact if_pos hyes
                  clear hst
                  cases f0 with
                  | false =>
                    go_upto_region 19 with fail
                    obtain ⟨ps, hR, hPs⟩ := hPw
                    have hkl : ((rs.map ents).take k).length = k := by simp; omega
                    have hBa : Below wr.heap.size wr (wr.alloc (.cells #[.pointer (some ⟨M, 0, none⟩)] 24)) := (Below.refl _ _).alloc (Nat.le_refl _) _
                    have bc : Blk (wr.alloc (.cells #[.pointer (some ⟨M, 0, none⟩)] 24)) wr.heap.size #[.pointer (some ⟨M, 0, none⟩)] 24 := Blk.new _ _ _
                    have hRa := hR.grow hBa
                    rw [hkl] at hRa
                    go_wp2_with (refine wpList_append_any _ rfl _ _ 36 rfl N 24 _ _ 1 8 rfl rfl rfl rfl rfl rfl _ k ps rfl hRa ⟨wr.heap.size, 0, none⟩ 1 _ [.pointer (some ⟨M, 0, none⟩)] rfl rfl bc.one (by simp [Value.oneCell']) (by simp only [maxLen]; omega) (by omega) (by simp; omega) (fun v' w4 hR4 hg4 hat4 => ?_))
                    refine ⟨⟨k + 1, by omega, by go_num, by rw [hst'], by rw [hst'], by rw [hst'], ?_, Below.grown (hBw.alloc hNw _) (by simp; omega) hg4 (fun g e => (hRa.lt g e).1), by have := hg4.size; simp at this; omega⟩, by simp [intOf]; omega⟩
                    have hpush := Pa.Ptrs.push (ls := (rs.map ents).take k) (by rw [hkl]; exact hRa) (fun j hj => let ⟨p, e, h⟩ := hPs j hj; ⟨p, e, h.below hBa⟩) (Pa.Ptr.below (l := E) (.inr ⟨M, u', rfl, hAw⟩) hBa) hg4 (by rw [hkl]; exact hR4)
                    rw [hstep] at hpush
                    exact hpush
                  | true =>
                    have hlt2 : decide (x0 < s0) = true := by simpa using hyes
                    go_upto_region 19 with fail
                    obtain ⟨ps, hR, hPs⟩ := hPw
                    have hkl : ((rs.map ents).take k).length = k := by simp; omega
                    have hBa : Below wr.heap.size wr (wr.alloc (.cells #[.pointer (some ⟨M, 0, none⟩)] 24)) := (Below.refl _ _).alloc (Nat.le_refl _) _
                    have bc : Blk (wr.alloc (.cells #[.pointer (some ⟨M, 0, none⟩)] 24)) wr.heap.size #[.pointer (some ⟨M, 0, none⟩)] 24 := Blk.new _ _ _
                    have hRa := hR.grow hBa
                    rw [hkl] at hRa
                    go_wp2_with (refine wpList_append_any _ rfl _ _ 36 rfl N 24 _ _ 1 8 rfl rfl rfl rfl rfl rfl _ k ps rfl hRa ⟨wr.heap.size, 0, none⟩ 1 _ [.pointer (some ⟨M, 0, none⟩)] rfl rfl bc.one (by simp [Value.oneCell']) (by simp only [maxLen]; omega) (by omega) (by simp; omega) (fun v' w4 hR4 hg4 hat4 => ?_))
                    refine ⟨⟨k + 1, by omega, by go_num, by rw [hst'], by rw [hst'], by rw [hst'], ?_, Below.grown (hBw.alloc hNw _) (by simp; omega) hg4 (fun g e => (hRa.lt g e).1), by have := hg4.size; simp at this; omega⟩, by simp [intOf]; omega⟩
                    have hpush := Pa.Ptrs.push (ls := (rs.map ents).take k) (by rw [hkl]; exact hRa) (fun j hj => let ⟨p, e, h⟩ := hPs j hj; ⟨p, e, h.below hBa⟩) (Pa.Ptr.below (l := E) (.inr ⟨M, u', rfl, hAw⟩) hBa) hg4 (by rw [hkl]; exact hR4)
                    rw [hstep] at hpush
                    exact hpush
                · have hst' : Pa.eldTo (rs.map ents) (k + 1) = (a0, s0, true) := by rw [hst, hE']; exact if_neg (fun h => h.elim (fun h => by cases h) hno)
                  have hlt2 : decide (x0 < s0) = false := by simpa using hno
                  go_upto_region 19 with fail
                  obtain ⟨ps, hR, hPs⟩ := hPw
                  have hkl : ((rs.map ents).take k).length = k := by simp; omega
                  have hBa : Below wr.heap.size wr (wr.alloc (.cells #[.pointer (some ⟨M, 0, none⟩)] 24)) := (Below.refl _ _).alloc (Nat.le_refl _) _
                  have bc : Blk (wr.alloc (.cells #[.pointer (some ⟨M, 0, none⟩)] 24)) wr.heap.size #[.pointer (some ⟨M, 0, none⟩)] 24 := Blk.new _ _ _
                  have hRa := hR.grow hBa
                  rw [hkl] at hRa
                  go_wp2_with (refine wpList_append_any _ rfl _ _ 36 rfl N 24 _ _ 1 8 rfl rfl rfl rfl rfl rfl _ k ps rfl hRa ⟨wr.heap.size, 0, none⟩ 1 _ [.pointer (some ⟨M, 0, none⟩)] rfl rfl bc.one (by simp [Value.oneCell']) (by simp only [maxLen]; omega) (by omega) (by simp; omega) (fun v' w4 hR4 hg4 hat4 => ?_))
                  refine ⟨⟨k + 1, by omega, by go_num, by rw [hst'], by rw [hst'], by rw [hst'], ?_, Below.grown (hBw.alloc hNw _) (by simp; omega) hg4 (fun g e => (hRa.lt g e).1), by have := hg4.size; simp at this; omega⟩, by simp [intOf]; omega⟩
                  have hpush := Pa.Ptrs.push (ls := (rs.map ents).take k) (by rw [hkl]; exact hRa) (fun j hj => let ⟨p, e, h⟩ := hPs j hj; ⟨p, e, h.below hBa⟩) (Pa.Ptr.below (l := E) (.inr ⟨M, u', rfl, hAw⟩) hBa) hg4 (by rw [hkl]; exact hR4)
                  rw [hstep] at hpush
                  exact hpush
      · obtain rfl : k = rs.length := by omega
        have hfl : (rs.map ents).take rs.length = rs.map ents := List.take_of_length_le (by simp)
        rw [hfl] at hP
        obtain ⟨ps, hR, hPs⟩ := hP
        have hml : (rs.map ents).length = rs.length := by simp
        rw [hml] at hR
        have hBa : Below W1.heap.size W1 (W1.alloc (.cells #[.pointer none] 24)) := (Below.refl _ _).alloc (Nat.le_refl _) _
        have bc : Blk (W1.alloc (.cells #[.pointer none] 24)) W1.heap.size #[.pointer none] 24 := Blk.new _ _ _
        have hRa := hR.grow hBa
        go_upto_region 21 with (refine wpList_append_any _ rfl _ _ 36 rfl N 24 _ _ 1 8 rfl rfl rfl rfl rfl rfl _ rs.length ps rfl hRa ⟨W1.heap.size, 0, none⟩ 1 _ [.pointer none] rfl rfl bc.one (by simp [Value.oneCell']) (by simp only [maxLen]; omega) (by omega) (by simp; omega) (fun v' w4 hR4 hg4 hat4 => ?_))
        have hB4 : Below N w w4 := Below.grown (hB.alloc hNr _) (by simp; omega) hg4 (fun g e => (hRa.lt g e).1)
        have hN4 : N ≤ w4.heap.size := by have := hg4.size; simp at this; omega
        have hpush := Pa.Ptrs.push (ls := rs.map ents) (l := []) (p := .pointer none) (by rw [hml]; exact hRa) (fun j hj => let ⟨p, e, h⟩ := hPs j hj; ⟨p, e, h.below hBa⟩) (.inl ⟨rfl, rfl⟩) hg4 (by rw [hml]; exact hR4)
        have he := past_eldest N v' (rs.map ents ++ [[]]) (by simp; omega) w4 hpush
        have hlast : Pa.eldTo (rs.map ents ++ [[]]) (rs.map ents ++ [[]]).length = Pa.eldTo (rs.map ents) rs.length := by
          simp only [List.length_append, List.length_cons, List.length_nil, hml, Nat.zero_add, Pa.eldTo]
          rw [eldTo_app _ _ _ (by simp)]
          simp [List.getD_eq_getElem?_getD, Pa.eld]
        rw [hlast] at he
        clear hg4 hat4 hR4 hpush
        go_wp2_with (go_at_call 13; refine he.mono ?_; rintro e w5 ⟨rfl, hb5⟩)
        all_goals (go_ret; exact ⟨by simp, hB4.trans (hb5.mono hN4)⟩)
end pastEldest
theorem pastEldest.core (v0 : Value) (a0 : List (List Int)) (W : World) (s0 : IntRows W .i64 v0 a0) :
    Calls Try.prog 4 #[v0] W fun e w' => e = .returned (.bool true) ∧ Below W.heap.size W w' := pastEldest.walk v0 a0 W s0
end Go.Proofs.Ytcdfamllamjpeaa
