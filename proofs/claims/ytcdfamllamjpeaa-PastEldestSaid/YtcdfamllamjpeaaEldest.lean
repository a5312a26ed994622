/- Package past's Eldest, walked. -/
import Derived.Test.YtcdfamllamjpeaaPast5
namespace Go.Proofs.Ytcdfamllamjpeaa
open Go.RowKit
set_option maxRecDepth 100000
namespace Pa
/-- p points to a past with these entries; or is nil, with none. -/
def Ptr (W : World) (p : Value) (l : List Ent) : Prop := (p = .pointer none ∧ l = []) ∨ ∃ b u, p = .pointer (some ⟨b, 0, none⟩) ∧ At W b 64 u l
theorem Ptr.below {W W' : World} {p : Value} {l : List Ent} (h : Ptr W p l) (hb : Below W.heap.size W W') : Ptr W' p l := by
  rcases h with h | ⟨b, u, h1, h2⟩
  · exact .inl h
  · exact .inr ⟨b, u, h1, h2.below hb⟩
/-- A slice of such pointers. -/
def Ptrs (W : World) (lo : Nat) (v : Value) (ls : List (List Ent)) : Prop := ∃ ps, Row W lo 24 1 v ls.length ps ∧ ∀ j, j < ls.length → ∃ p, ps[j]? = some p ∧ Ptr W p (ls.getD j [])
theorem Ptrs.below {W W' : World} {lo : Nat} {v : Value} {ls : List (List Ent)} (h : Ptrs W lo v ls) (hb : Below W.heap.size W W') : Ptrs W' lo v ls := by
  obtain ⟨ps, h1, h2⟩ := h
  exact ⟨ps, h1.grow hb, fun j hj => let ⟨p, e, h⟩ := h2 j hj; ⟨p, e, h.below hb⟩⟩
/-- The eldest so far: where, its Seq, whether there is one. -/
def eld (s : Int × Int × Bool) (i : Int) : List Ent → Int × Int × Bool
  | [] => s
  | e :: _ => if s.2.2 = false ∨ e.1 < s.2.1 then (i, e.1, true) else s
def eldTo (ls : List (List Ent)) : Nat → Int × Int × Bool
  | 0 => (0, 0, false)
  | k + 1 => eld (eldTo ls k) k (ls.getD k [])
end Pa
set_option maxHeartbeats 4000000 in
theorem past_eldest (lo : Nat) (v : Value) (ls : List (List Pa.Ent)) (hl : ls.length ≤ 100000) (w : World) (h : Pa.Ptrs w lo v ls) :
    Calls Try.prog 13 #[v] w fun e w' => e = .returned (.tuple #[.int .i64 (Pa.eldTo ls ls.length).1, .bool (Pa.eldTo ls ls.length).2.2]) ∧ Below w.heap.size w w' := by
  obtain ⟨N, hN⟩ : ∃ N, N = w.heap.size := ⟨_, rfl⟩
  have HN := Lib.hid hN
  rw [← hN]
  clear hN
  obtain ⟨bv, cv, rfl⟩ := h.elim fun ps h => h.1.len
  have hB0 : Below N w w := Below.refl _ _
  go_enter Try.func13, Try.ntmps13
  go_wp2_with fail
  go_loopw [4, 5, 6, 13] (fun a s f i wr => ∃ k : Nat, k ≤ ls.length ∧ i = .int .i64 k ∧ a = .int .i64 (Pa.eldTo ls k).1 ∧ s = .int .i64 (Pa.eldTo ls k).2.1 ∧ f = .bool (Pa.eldTo ls k).2.2 ∧ Below N w wr) (fun _ _ _ i _ => ls.length - (intOf i).toNat)
  case atStart => exact ⟨0, Nat.zero_le _, rfl, rfl, rfl, rfl, hB0⟩
  case round =>
    clear hB0
    obtain ⟨k, hk, rfl, rfl, rfl, rfl, hB⟩ := hrel
    by_cases hlt : k < ls.length
    · obtain ⟨ps, hR, hP⟩ := h.below (W' := wr) (by rw [← HN.out]; exact hB)
      obtain ⟨p, hp, hPt⟩ := hP k hlt
      obtain ⟨g, cap, hge, _, hgs, hc⟩ := hR.cells (by omega)
      obtain ⟨rfl, rfl⟩ : bv = some ⟨g, 0, none⟩ ∧ cv = cap := by simpa using hge
      have ck := (hc k (by omega)).trans hp
      have hst : Pa.eldTo ls (k + 1) = Pa.eld (Pa.eldTo ls k) k (ls.getD k []) := rfl
      obtain ⟨⟨a0, s0, f0⟩, hs0⟩ : ∃ s, Pa.eldTo ls k = s := ⟨_, rfl⟩
      rw [hs0] at hst ⊢
      clear hc hP hR hs0 hp hge
      have hw := Nat.le_trans (show N ≤ w.heap.size by rw [HN.out]; exact Nat.le_refl _) hB.size
      rcases hPt with ⟨rfl, hl0⟩ | ⟨b, u, rfl, hA⟩
      · rw [hl0] at hst
        go_wp2_with (go_at_call 20; refine (past_oldest_nil _).mono ?_; rintro e w4 ⟨rfl, hb4⟩; simp only [Pa.val])
        refine ⟨⟨k + 1, by omega, by go_num, by rw [hst]; rfl, by rw [hst]; rfl, by rw [hst]; rfl, (hB.trans (hb4.mono hw)).alloc (Nat.le_trans hw hb4.size) _⟩, by simp [intOf]; omega⟩
      · obtain ⟨l, hl⟩ : ∃ l, ls.getD k [] = l := ⟨_, rfl⟩
        rw [hl] at hst hA
        cases l with
        | nil =>
          go_wp2_with (go_at_call 20; refine (past_oldest0 b 64 u _ hA).mono ?_; rintro e w4 ⟨rfl, hb4⟩; simp only [Pa.val])
          refine ⟨⟨k + 1, by omega, by go_num, by rw [hst]; rfl, by rw [hst]; rfl, by rw [hst]; rfl, (hB.trans (hb4.mono hw)).alloc (Nat.le_trans hw hb4.size) _⟩, by simp [intOf]; omega⟩
        | cons e l =>
          obtain ⟨e0, e1, e2⟩ := e
          go_upto_region 6 with (go_at_call 20; refine (past_oldest b 64 u _ _ _ hA).mono ?_; rintro e w4 ⟨rfl, hb4⟩; simp only [Pa.val])
          obtain ⟨c, hc⟩ : ∃ c, c = w4.heap.size := ⟨_, rfl⟩
          refine wp_world (fun W => Blk W c #[.int .i64 e0, .int .i64 e1, .int .i64 e2] 29 ∧ Below N w W) ⟨Blk.new' _ _ _ hc, (hB.trans (hb4.mono hw)).alloc (Nat.le_trans hw hb4.size) _⟩ ?_
          rw [← hc]
          clear hc hb4 ck
          rintro W5 ⟨bc, hB5⟩
          have q0 := bc.cell 0
          have hcase : (f0 = false ∨ e0 < s0) ∨ (f0 = true ∧ ¬ e0 < s0) := by
            cases f0
            · exact .inl (.inl rfl)
            · by_cases h : e0 < s0
              · exact .inl (.inr h)
              · exact .inr ⟨rfl, h⟩
          rcases hcase with hyes | ⟨rfl, hno⟩
          · have hst' : Pa.eldTo ls (k + 1) = ((k : Int), e0, true) := by rw [hst]; exact if_pos hyes
            have fin : ∀ W', Below N w W' → (∃ k' : Nat, k' ≤ ls.length ∧ Value.int .i64 ((k : Int) + 1) = .int .i64 k' ∧ Value.int .i64 k = .int .i64 (Pa.eldTo ls k').1 ∧ Value.int .i64 e0 = .int .i64 (Pa.eldTo ls k').2.1 ∧ Value.bool true = .bool (Pa.eldTo ls k').2.2 ∧ Below N w W') ∧ ls.length - (intOf (Value.int .i64 ((k : Int) + 1))).toNat < ls.length - (intOf (Value.int .i64 k)).toNat :=
              fun W' hb => ⟨⟨k + 1, by omega, by go_num, by rw [hst'], by rw [hst'], by rw [hst'], hb⟩, by simp [intOf]; omega⟩
            clear hst hst'
            cases f0 with
            | false =>
              go_wp2_with fail
              go_quiet (fail)
              go_wp2_with fail
              exact fin _ (Below.drewN' hB5 nq)
            | true =>
              have hlt2 : decide (e0 < s0) = true := by simpa using hyes
              go_wp2_with fail
              go_quiet (fail)
              go_wp2_with fail
              exact fin _ (Below.drewN' hB5 nq)
          · have hst' : Pa.eldTo ls (k + 1) = (a0, s0, true) := by rw [hst]; exact if_neg (fun h => h.elim (fun h => by cases h) hno)
            have hlt2 : decide (e0 < s0) = false := by simpa using hno
            go_wp2_with fail
            refine ⟨⟨k + 1, by omega, by go_num, by rw [hst'], by rw [hst'], by rw [hst'], hB5⟩, by simp [intOf]; omega⟩
    · obtain rfl : k = ls.length := by omega
      go_wp2_with fail
      go_ret2
      exact ⟨rfl, hB⟩
end Go.Proofs.Ytcdfamllamjpeaa
