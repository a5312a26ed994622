/- The example of the statements on pasts. -/
import Derived.Test.YtcdfamllamjpeaaPast3
namespace Go.Proofs.Ytcdfamllamjpeaa
open Go.RowKit
namespace Pa
/-- The world grew from w (of size N); a past of its own stands at b. -/
def Own (N : Nat) (w W : World) (b most : Nat) (u : Value) (l : List Ent) : Prop := Below N w W ∧ N ≤ W.heap.size ∧ At W b most u l ∧ N ≤ b ∧ ∀ g, u.ownBlock = some g → N ≤ g
theorem Own.lt {N : Nat} {w W : World} {b most : Nat} {u : Value} {l : List Ent} (h : Own N w W b most u l) : b < W.heap.size := h.2.2.1.box.lt
theorem Own.next {N : Nat} {w W W' : World} {b most : Nat} {u u' : Value} {l l' : List Ent} (h : Own N w W b most u l) (hA : At W' b most u' l') (hC : Chg (May b u) W W') (hn : ∀ g, u'.ownBlock = some g → u.ownBlock = some g ∨ W.heap.size ≤ g) : Own N w W' b most u' l' := by
  obtain ⟨h1, h2, h3, h4, h5⟩ := h
  refine ⟨h1.trans (hC.below h2 (fun k hk => hk.elim (fun e => e ▸ h4) (fun e => h5 k e))), Nat.le_trans h2 hC.size, hA, h4, fun g hg => ?_⟩
  rcases hn g hg with e | e
  · exact h5 g e
  · omega
theorem Own.grow {N : Nat} {w W W' : World} {b most : Nat} {u : Value} {l : List Ent} (h : Own N w W b most u l) (hb : Below W.heap.size W W') : Own N w W' b most u l := by
  obtain ⟨h1, h2, h3, h4, h5⟩ := h
  exact ⟨h1.trans (hb.mono h2), Nat.le_trans h2 hb.size, h3.below hb, h4, h5⟩
end Pa
theorem own_new (n : Nat) (hn : n ≤ 64) (N : Nat) (w W : World) (hB : Below N w W) (hN : N ≤ W.heap.size) : Calls Try.prog 9 #[.int .i64 n] W fun e w' => ∃ b, e = .returned (.tuple #[.pointer (some ⟨b, 0, none⟩), .int .i64 0]) ∧ Pa.Own N w w' b n (.slice none 0 0) [] := by
  refine (past_new n hn W).mono ?_
  rintro e w' ⟨rfl, hA, hb⟩
  exact ⟨_, rfl, hB.trans (hb.mono hN), Nat.le_trans hN hb.size, hA, hN, fun g hg => by cases hg⟩
theorem own_push_room {N : Nat} {w W : World} {b most : Nat} {u : Value} {l : List Pa.Ent} (x : Pa.Ent) (hl : l.length + 1 ≤ most) (hm : most ≤ 100000) (h : Pa.Own N w W b most u l) :
    Calls Try.prog 10 #[.pointer (some ⟨b, 0, none⟩), Pa.val x] W fun e w' => e = .returned (.tuple #[Pa.val (0, 0, 0), .bool false]) ∧ ∃ u', Pa.Own N w w' b most u' (l ++ [x]) ∧ Chg (Pa.May b u) W w' := by
  refine (past_push b most u x l (by omega) W h.2.2.1).mono ?_
  rintro e w' ⟨_, hr⟩
  obtain ⟨rfl, u', hA, hC, hn⟩ := hr hl
  exact ⟨rfl, u', h.next hA hC hn, hC⟩
theorem own_push_full {N : Nat} {w W : World} {b most : Nat} {u : Value} {l : List Pa.Ent} (x y : Pa.Ent) (m : List Pa.Ent) (hl : most < l.length + 1) (hm : l.length ≤ 100000) (hy : l ++ [x] = y :: m) (h : Pa.Own N w W b most u l) :
    Calls Try.prog 10 #[.pointer (some ⟨b, 0, none⟩), Pa.val x] W fun e w' => e = .returned (.tuple #[Pa.val y, .bool true]) ∧ ∃ u', Pa.Own N w w' b most u' m ∧ Chg (Pa.May b u) W w' := by
  refine (past_push b most u x l hm W h.2.2.1).mono ?_
  rintro e w' ⟨hr, _⟩
  obtain ⟨rfl, u', hA, hC, hn⟩ := hr hl y m hy
  exact ⟨rfl, u', h.next hA hC hn, hC⟩
theorem own_pop {N : Nat} {w W : World} {b most : Nat} {u : Value} {l : List Pa.Ent} (x : Pa.Ent) (hm : l.length ≤ 100000) (h : Pa.Own N w W b most u (l ++ [x])) :
    Calls Try.prog 11 #[.pointer (some ⟨b, 0, none⟩)] W fun e w' => e = .returned (.tuple #[Pa.val x, .bool true]) ∧ ∃ u', Pa.Own N w w' b most u' l ∧ Chg (Pa.May b u) W w' := by
  refine (past_pop b most u x l hm W h.2.2.1).mono ?_
  rintro e w' ⟨rfl, u', hA, hC, hn⟩
  have hC' : Chg (Pa.May b u) W w' := ⟨hC.os, hC.tape, hC.output, hC.size, fun k hk hm => hC.block k hk (fun e => hm (.inl e))⟩
  exact ⟨rfl, u', h.next hA hC' (fun g hg => .inl (hn ▸ hg)), hC'⟩
theorem own_new2 (N : Nat) (w W : World) (hB : Below N w W) (hN : N ≤ W.heap.size) : Calls Try.prog 9 #[.int .i64 2] W fun e w' => ∃ b, e = .returned (.tuple #[.pointer (some ⟨b, 0, none⟩), .int .i64 0]) ∧ Pa.Own N w w' b 2 (.slice none 0 0) [] := own_new 2 (by omega) N w W hB hN
theorem own_len {N : Nat} {w W : World} {b most : Nat} {u : Value} {l : List Pa.Ent} (h : Pa.Own N w W b most u l) : Calls Try.prog 12 #[.pointer (some ⟨b, 0, none⟩)] W fun e w' => e = .returned (.int .i64 l.length) ∧ W = w' := past_len b most u l W h.2.2.1
set_option maxRecDepth 100000 in
set_option maxHeartbeats 2000000 in
theorem awake22 (w : World) : Calls Try.prog 8 #[] w fun e w' => e = .returned (.bool true) ∧ Below w.heap.size w w' := by
  obtain ⟨N, hN⟩ : ∃ N, N = w.heap.size := ⟨_, rfl⟩
  have hB0 : Below N w w := Below.refl _ _
  have hN0 : N ≤ w.heap.size := by omega
  rw [← hN]
  clear hN
  go_enter Try.func8, Try.ntmps8
  go_upto_region 4 with (first
    | (go_at_call 9; refine (own_new2 N w _ hB0 hN0).mono ?_; rintro e w' ⟨b, rfl, hO0⟩)
    | (go_at_call 10; refine (own_push_room (0, 0, 2) (by decide) (by decide) hO1).mono ?_; clear hO1; rintro e w' ⟨rfl, u2, hO2, -⟩)
    | (go_at_call 10; refine (own_push_room (0, 0, 1) (by decide) (by decide) hO0).mono ?_; clear hO0; rintro e w' ⟨rfl, u1, hO1, -⟩))
  go_upto_region 5 with (go_at_call 10; refine (own_push_full (0, 0, 3) (0, 0, 1) [(0, 0, 2), (0, 0, 3)] (by decide) (by decide) rfl hO2).mono ?_; clear hO2; rintro e w3 ⟨rfl, u3, hO3, -⟩; simp only [Pa.val])
  obtain ⟨c1, hc1⟩ : ∃ c, c = w3.heap.size := ⟨_, rfl⟩
  refine wp_world (fun W => Blk W c1 #[.int .i64 0, .int .i64 0, .int .i64 1] 29 ∧ Pa.Own N w W b 2 u3 [(0, 0, 2), (0, 0, 3)] ∧ c1 ≠ b ∧ ∀ g, u3.ownBlock = some g → c1 ≠ g) ⟨Blk.new' _ _ _ hc1, hO3.grow ((Below.refl _ _).alloc (Nat.le_refl _) _), by have := hO3.lt; omega, fun g hg => by have := (hO3.2.2.1.row.lt g hg).2; omega⟩ ?_
  rw [← hc1]
  clear hc1 hO3
  rintro W3 ⟨b3, hO3, hcb, hcu⟩
  go_upto_region 6 with (go_at_call 11; refine (own_pop (l := [(0, 0, 2)]) (0, 0, 3) (by decide) hO3).mono ?_; rintro e w4 ⟨rfl, u4, hO4, hC4⟩; simp only [Pa.val])
  obtain ⟨c2, hc2⟩ : ∃ c, c = w4.heap.size := ⟨_, rfl⟩
  have b4 := b3.chg hC4 (fun h => h.elim hcb (fun e => hcu _ e rfl))
  have hlt := b4.lt
  rw [← hc2]
  refine wp_world (fun W => Blk W c1 #[.int .i64 0, .int .i64 0, .int .i64 1] 29 ∧ Blk W c2 #[.int .i64 0, .int .i64 0, .int .i64 3] 29 ∧ Pa.Own N w W b 2 u4 [(0, 0, 2)]) ⟨b4.alloc _, Blk.new' _ _ _ hc2, hO4.grow ((Below.refl _ _).alloc (Nat.le_refl _) _)⟩ ?_
  clear hc2 hO4 hO3 b3 b4 hcb hcu hC4 hlt
  rintro W4 ⟨b3, b4, hO⟩
  have q3 := b3.cell 2
  have q4 := b4.cell 2
  go_wp2_with (go_at_call 12; refine (own_len hO).mono ?_; rintro e w5 ⟨rfl, rfl⟩)
  go_ret
  exact ⟨rfl, hO.1⟩
end Go.Proofs.Ytcdfamllamjpeaa
