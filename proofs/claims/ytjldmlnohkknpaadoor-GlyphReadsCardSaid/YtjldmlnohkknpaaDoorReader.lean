/- Package glyph's reader of quoted texts: stop, byte, want, hex, digit, walked. -/
import Derived.Test.YtjldmlnohkknpaaDoorBytes
import Derived.Test.YtjldmlnohkknpaaDoorMem
import Derived.BigQuiet
namespace Go.Proofs.YtjldmlnohkknpaaDoor
open Go.RowKit
set_option maxRecDepth 100000
set_option maxHeartbeats 4000000
/-- A hexadecimal digit's number; -1. -/
def dg (c : Nat) : Int := if 48 ≤ c ∧ c ≤ 57 then (c : Int) - 48 else if 97 ≤ c ∧ c ≤ 102 then (c : Int) - 87 else -1
theorem dg_bd (c : Nat) : -1 ≤ dg c ∧ dg c ≤ 15 := by unfold dg; split; omega; split <;> omega
theorem gl_digit (c : Nat) (_hc : c < 256) (w : World) : Calls Tryd.prog 58 #[.int .u8 c] w fun e w' => e = .returned (.int .i32 (dg c)) ∧ w = w' := by
  have hcs : (c < 48) ∨ (48 ≤ c ∧ c ≤ 57) ∨ (58 ≤ c ∧ c < 97) ∨ (97 ≤ c ∧ c ≤ 102) ∨ 103 ≤ c := by omega
  rcases hcs with h | ⟨h, h'⟩ | ⟨h, h'⟩ | ⟨h, h'⟩ | h
  · have hd : dg c = -1 := by unfold dg; rw [if_neg (by omega), if_neg (by omega)]
    have t1 : decide ((48 : Int) ≤ (c : Int)) = false := by simp; omega
    have t2 : decide ((97 : Int) ≤ (c : Int)) = false := by simp; omega
    rw [hd]; clear hd h
    go_enter Tryd.func58, Tryd.ntmps58
    go_wp2
    go_ret
    exact ⟨rfl, rfl⟩
  · have hd : dg c = (c : Int) - 48 := by unfold dg; rw [if_pos (by omega)]
    have t1 : decide ((48 : Int) ≤ (c : Int)) = true := by simp; omega
    have t2 : decide ((c : Int) ≤ 57) = true := by simp; omega
    have e1 : IntKind.u8.wrap ((c : Int) - 48) = (c : Int) - 48 := IntWalk.u8_in _ (by omega)
    have e2 : IntKind.i32.wrap ((c : Int) - 48) = (c : Int) - 48 := IntWalk.i32_in _ (by omega)
    rw [hd]; clear hd
    go_enter Tryd.func58, Tryd.ntmps58
    go_wp2
    go_ret
    exact ⟨rfl, rfl⟩
  · have hd : dg c = -1 := by unfold dg; rw [if_neg (by omega), if_neg (by omega)]
    have t1 : decide ((48 : Int) ≤ (c : Int)) = true := by simp; omega
    have t2 : decide ((c : Int) ≤ 57) = false := by simp; omega
    have t3 : decide ((97 : Int) ≤ (c : Int)) = false := by simp; omega
    rw [hd]; clear hd h
    go_enter Tryd.func58, Tryd.ntmps58
    go_wp2
    go_ret
    exact ⟨rfl, rfl⟩
  · have hd : dg c = (c : Int) - 87 := by unfold dg; rw [if_neg (by omega), if_pos (by omega)]
    have t1 : decide ((48 : Int) ≤ (c : Int)) = true := by simp; omega
    have t2 : decide ((c : Int) ≤ 57) = false := by simp; omega
    have t3 : decide ((97 : Int) ≤ (c : Int)) = true := by simp; omega
    have t4 : decide ((c : Int) ≤ 102) = true := by simp; omega
    have e1 : IntKind.u8.wrap ((c : Int) - 97) = (c : Int) - 97 := IntWalk.u8_in _ (by omega)
    have e2 : IntKind.i32.wrap ((c : Int) - 97) = (c : Int) - 97 := IntWalk.i32_in _ (by omega)
    have e3 : IntKind.i32.wrap ((c : Int) - 97 + 10) = (c : Int) - 87 := by rw [IntWalk.i32_in _ (by omega)]; omega
    rw [hd]; clear hd
    go_enter Tryd.func58, Tryd.ntmps58
    go_wp2
    go_ret
    exact ⟨by first | rfl | (congr 2; omega), rfl⟩
  · have hd : dg c = -1 := by unfold dg; rw [if_neg (by omega), if_neg (by omega)]
    have t1 : decide ((48 : Int) ≤ (c : Int)) = true := by simp; omega
    have t2 : decide ((c : Int) ≤ 57) = false := by simp; omega
    have t3 : decide ((97 : Int) ≤ (c : Int)) = true := by simp; omega
    have t4 : decide ((c : Int) ≤ 102) = false := by simp; omega
    rw [hd]; clear hd h
    go_enter Tryd.func58, Tryd.ntmps58
    go_wp2
    go_ret
    exact ⟨rfl, rfl⟩
/-- The error at a place where nothing can go on. -/
def fe (s : ByteArray) (p : Nat) : Int := if p < s.size then 16 else 2
/-- A reader of s that the call has made: its place, its error, the bytes that it has read. -/
def Rd (b : Nat) (s : ByteArray) (p : Nat) (e : Int) (l : List UInt8) (w : World) : Prop :=
  ∃ v, Blk w b #[.string s, .int .i64 p, v, .int .i64 e] 61 ∧ w.ownsRowF b 5 1 v l.length (Lib.byteCells l) ∧ v.ownBlock ≠ some b
theorem bel_n {B : Nat} {a w : World} (h : Below B a w) (n : Nat) : Below B a (w.drewN n) := ⟨h.os, h.tape, h.output, h.size, h.block⟩
theorem own_set {w : World} {b : Nat} {e : TypeId} {v : Value} {n : Nat} {xs : List Value} (h : w.ownsRowF b e 1 v n xs) (hne : v.ownBlock ≠ some b) (i : Nat) (x : Value) : (w.setCell ⟨b, i, none⟩ x).ownsRowF b e 1 v n xs := by
  refine ⟨h.1, ?_⟩
  rcases h.2 with h0 | ⟨g, cap, cur, fz, hv, hg, hheap, hr⟩
  · exact .inl h0
  · refine .inr ⟨g, cap, cur, fz, hv, hg, ?_, hr⟩
    rw [heap_setCell_other w ⟨b, i, none⟩ g x (fun hgb => hne (by rw [hv]; subst hgb; rfl))]
    exact hheap
theorem Rd.set1 {b : Nat} {s : ByteArray} {p : Nat} {e : Int} {l : List UInt8} {w : World} (h : Rd b s p e l w) (q : Nat) : Rd b s q e l (w.setCell ⟨b, 1, none⟩ (.int .i64 q)) := by
  obtain ⟨v, hB, hown, hne⟩ := h
  exact ⟨v, hB.set 1 _, own_set hown hne _ _, hne⟩
theorem Rd.set3 {b : Nat} {s : ByteArray} {p : Nat} {e : Int} {l : List UInt8} {w : World} (h : Rd b s p e l w) (q : Int) : Rd b s p q l (w.setCell ⟨b, 3, none⟩ (.int .i64 q)) := by
  obtain ⟨v, hB, hown, hne⟩ := h
  exact ⟨v, hB.set 3 _, own_set hown hne _ _, hne⟩
theorem Rd.drewN {b : Nat} {s : ByteArray} {p : Nat} {e : Int} {l : List UInt8} {w : World} (h : Rd b s p e l w) (n : Nat) : Rd b s p e l (w.drewN n) := h
theorem Rd.cells {b : Nat} {s : ByteArray} {p : Nat} {e : Int} {l : List UInt8} {w : World} (h : Rd b s p e l w) : w.cell? ⟨b, 0, none⟩ = some (.string s) ∧ w.cell? ⟨b, 1, none⟩ = some (.int .i64 p) ∧ w.cell? ⟨b, 3, none⟩ = some (.int .i64 e) ∧ w.frozen? ⟨b, 1, none⟩ = false ∧ w.frozen? ⟨b, 3, none⟩ = false := by
  obtain ⟨v, hB, -, -⟩ := h
  exact ⟨hB.cell 0, hB.cell 1, hB.cell 3, hB.free 1, hB.free 3⟩
theorem rd_stop (b : Nat) (s : ByteArray) (p : Nat) (l : List UInt8) (w : World) (hp : p ≤ s.size) (_hs : s.size ≤ 1000000) (h : Rd b s p 0 l w) :
    Calls Tryd.prog 47 #[.pointer (some ⟨b, 0, none⟩)] w fun e w' => e = .returned (.tuple #[]) ∧ Rd b s p (fe s p) l w' ∧ Below b w w' := by
  obtain ⟨c0, c1, c3, f1, f3⟩ := h.cells
  by_cases hlt : p < s.size
  · have t1 : decide ((s.size : Int) ≤ (p : Int)) = false := by simp; omega
    have hfe : fe s p = 16 := by unfold fe; rw [if_pos hlt]
    have h16 := h.set3 16
    rw [hfe]
    clear hfe
    go_enter Tryd.func47, Tryd.ntmps47
    go_wp2
    go_quiet (fail)
    go_wp2
    go_end0
    exact ⟨rfl, h16.drewN _, bel_n ((Below.refl b w).setCell (p := ⟨b, 3, none⟩) (Nat.le_refl _) _) _⟩
  · obtain rfl : p = s.size := by omega
    have t1 : decide ((s.size : Int) ≤ (s.size : Int)) = true := by simp
    have hfe : fe s s.size = 2 := by unfold fe; rw [if_neg hlt]
    have h16 := h.set3 16
    rw [hfe]
    clear hfe hp hlt
    go_enter Tryd.func47, Tryd.ntmps47
    go_wp2
    go_quiet (fail)
    go_wp2
    go_end0
    exact ⟨rfl, ((h16.drewN _).set1 _).set3 2, ((bel_n ((Below.refl b w).setCell (p := ⟨b, 3, none⟩) (Nat.le_refl _) _) _).setCell (p := ⟨b, 1, none⟩) (Nat.le_refl _) _).setCell (p := ⟨b, 3, none⟩) (Nat.le_refl _) _⟩
theorem rd_stop_err (b : Nat) (s : ByteArray) (p : Nat) (e : Int) (he : e ≠ 0) (l : List UInt8) (w : World) (h : Rd b s p e l w) :
    Calls Tryd.prog 47 #[.pointer (some ⟨b, 0, none⟩)] w fun r w' => r = .returned (.tuple #[]) ∧ w = w' := by
  obtain ⟨c0, c1, c3, f1, f3⟩ := h.cells
  have t1 : decide (e = 0) = false := by simpa using he
  have t2 : (e == 0) = false := by simpa using he
  go_enter Tryd.func47, Tryd.ntmps47
  go_wp2
  go_end0
  exact ⟨rfl, rfl⟩
theorem rd_byte (b : Nat) (s : ByteArray) (p : Nat) (l : List UInt8) (w : World) (hp : p < s.size) (_hs : s.size ≤ 1000000) (h : Rd b s p 0 l w) :
    Calls Tryd.prog 45 #[.pointer (some ⟨b, 0, none⟩)] w fun r w' => r = .returned (.int .u8 (bt s p)) ∧ Rd b s p 0 l w' ∧ Below b w w' := by
  obtain ⟨c0, c1, c3, f1, f3⟩ := h.cells
  have t1 : decide ((s.size : Int) ≤ (p : Int)) = false := by simp; omega
  have hb := bt_get s p hp
  have i0 : (0 : Int) ≤ (p : Int) := by omega
  have i1 : (p : Int) < (s.size : Int) := by omega
  go_enter Tryd.func45, Tryd.ntmps45
  go_wp2
  go_quiet (fail)
  go_wp2
  go_quiet (fail)
  go_wp2
  go_ret
  exact ⟨by rfl, h, bel_n (bel_n (Below.refl b w) _) _⟩
theorem rd_byte_end (b : Nat) (s : ByteArray) (l : List UInt8) (w : World) (hs : s.size ≤ 1000000) (h : Rd b s s.size 0 l w) :
    Calls Tryd.prog 45 #[.pointer (some ⟨b, 0, none⟩)] w fun r w' => r = .returned (.int .u8 0) ∧ Rd b s s.size 2 l w' ∧ Below b w w' := by
  obtain ⟨c0, c1, c3, f1, f3⟩ := h.cells
  have t1 : decide ((s.size : Int) ≤ (s.size : Int)) = true := by simp
  have hfe : fe s s.size = 2 := by unfold fe; rw [if_neg (by omega)]
  go_enter Tryd.func45, Tryd.ntmps45
  go_wp2
  go_quiet (fail)
  have hst := fun W h => rd_stop b s s.size l W (Nat.le_refl _) hs h
  rw [hfe] at hst
  go_wp2_with (go_at_call 47; refine (hst _ (h.drewN _)).mono ?_; rintro r w1 ⟨rfl, h1, b1⟩)
  go_ret
  exact ⟨rfl, h1, (bel_n (Below.refl b w) _).trans b1⟩
theorem rd_byte_err (b : Nat) (s : ByteArray) (p : Nat) (e : Int) (he : e ≠ 0) (l : List UInt8) (w : World) (h : Rd b s p e l w) :
    Calls Tryd.prog 45 #[.pointer (some ⟨b, 0, none⟩)] w fun r w' => r = .returned (.int .u8 0) ∧ Rd b s p e l w' ∧ Below b w w' := by
  obtain ⟨c0, c1, c3, f1, f3⟩ := h.cells
  have t1 : decide (e = 0) = false := by simpa using he
  have t2 : (e != 0) = true := by simpa using he
  have hst := fun W h => rd_stop_err b s p e he l W h
  go_enter Tryd.func45, Tryd.ntmps45
  go_wp2
  go_quiet (fail)
  go_wp2_with (go_at_call 47; refine (hst _ (h.drewN _)).mono ?_; rintro r w1 ⟨rfl, rfl⟩)
  go_ret
  exact ⟨rfl, h.drewN _, bel_n (Below.refl b w) _⟩
theorem rd_want (b : Nat) (s : ByteArray) (p : Nat) (c : Nat) (l : List UInt8) (w : World) (hp : p < s.size) (hc : bt s p = c) (hs : s.size ≤ 1000000) (h : Rd b s p 0 l w) :
    Calls Tryd.prog 44 #[.pointer (some ⟨b, 0, none⟩), .int .u8 c] w fun r w' => r = .returned (.tuple #[]) ∧ Rd b s (p + 1) 0 l w' ∧ Below b w w' := by
  have hby := rd_byte b s p l w hp hs h
  rw [hc] at hby
  clear hc
  go_enter Tryd.func44, Tryd.ntmps44
  go_wp2_with (go_at_call 45; refine hby.mono ?_; rintro r w1 ⟨rfl, h1, b1⟩; obtain ⟨c0, c1, c3, f1, f3⟩ := h1.cells)
  go_end0
  exact ⟨rfl, h1.set1 (p + 1), b1.setCell (p := ⟨b, 1, none⟩) (Nat.le_refl _) _⟩
theorem rd_want_bad (b : Nat) (s : ByteArray) (p : Nat) (c : Nat) (hc0 : c ≠ 0) (l : List UInt8) (w : World) (hp : p ≤ s.size) (hc : ¬ (p < s.size ∧ bt s p = c)) (hs : s.size ≤ 1000000) (h : Rd b s p 0 l w) :
    Calls Tryd.prog 44 #[.pointer (some ⟨b, 0, none⟩), .int .u8 c] w fun r w' => r = .returned (.tuple #[]) ∧ Rd b s p (fe s p) l w' ∧ Below b w w' := by
  have hfe : fe s p ≠ 0 := by unfold fe; split <;> decide
  have tf : decide (fe s p = 0) = false := by simpa using hfe
  have tf2 : (fe s p == 0) = false := by simpa using hfe
  by_cases hlt : p < s.size
  · have hne : bt s p ≠ c := fun h => hc ⟨hlt, h⟩
    have hby := rd_byte b s p l w hlt hs h
    have hst := fun W h => rd_stop b s p l W hp hs h
    have t1 : ((bt s p : Int) != (c : Int)) = true := by simp; omega
    clear hc
    generalize fe s p = e at *
    generalize bt s p = d at *
    go_enter Tryd.func44, Tryd.ntmps44
    go_wp2_with (first | (go_at_call 45; refine hby.mono ?_; rintro r w1 ⟨rfl, h1, b1⟩) | (go_at_call 47; refine (hst _ h1).mono ?_; rintro r w2 ⟨rfl, h2, b2⟩; obtain ⟨c0, c1, c3, f1, f3⟩ := h2.cells))
    go_end0
    exact ⟨rfl, h2, b1.trans b2⟩
  · obtain rfl : p = s.size := by omega
    have hby := rd_byte_end b s l w hs h
    have hfe2 : fe s s.size = 2 := by unfold fe; rw [if_neg hlt]
    have hst := fun W h => rd_stop_err b s s.size 2 (by decide) l W h
    have t1 : ((0 : Int) != (c : Int)) = true := by simp; omega
    rw [hfe2]
    clear hc hfe tf tf2 hfe2
    go_enter Tryd.func44, Tryd.ntmps44
    go_wp2_with (first | (go_at_call 45; refine hby.mono ?_; rintro r w1 ⟨rfl, h1, b1⟩) | (go_at_call 47; refine (hst _ h1).mono ?_; rintro r w2 ⟨rfl, rfl⟩; obtain ⟨c0, c1, c3, f1, f3⟩ := h1.cells))
    go_end0
    exact ⟨rfl, h1, b1⟩
theorem rd_want_err (b : Nat) (s : ByteArray) (p : Nat) (c : Nat) (hc0 : c ≠ 0) (e : Int) (he : e ≠ 0) (l : List UInt8) (w : World) (h : Rd b s p e l w) :
    Calls Tryd.prog 44 #[.pointer (some ⟨b, 0, none⟩), .int .u8 c] w fun r w' => r = .returned (.tuple #[]) ∧ Rd b s p e l w' ∧ Below b w w' := by
  have hby := rd_byte_err b s p e he l w h
  have hst := fun W h => rd_stop_err b s p e he l W h
  have t1 : ((0 : Int) != (c : Int)) = true := by simp; omega
  have tf : decide (e = 0) = false := by simpa using he
  have tf2 : (e == 0) = false := by simpa using he
  go_enter Tryd.func44, Tryd.ntmps44
  go_wp2_with (first | (go_at_call 45; refine hby.mono ?_; rintro r w1 ⟨rfl, h1, b1⟩) | (go_at_call 47; refine (hst _ h1).mono ?_; rintro r w2 ⟨rfl, rfl⟩; obtain ⟨c0, c1, c3, f1, f3⟩ := h1.cells))
  go_end0
  exact ⟨rfl, h1, b1⟩
theorem rd_hex (b : Nat) (s : ByteArray) (p : Nat) (l : List UInt8) (w : World) (hp : p < s.size) (hd : 0 ≤ dg (bt s p)) (hs : s.size ≤ 1000000) (h : Rd b s p 0 l w) :
    Calls Tryd.prog 54 #[.pointer (some ⟨b, 0, none⟩)] w fun r w' => r = .returned (.int .i32 (dg (bt s p))) ∧ Rd b s (p + 1) 0 l w' ∧ Below b w w' := by
  have hby := rd_byte b s p l w hp hs h
  have hdg := gl_digit (bt s p) (bt_lt s p)
  have t1 : decide (dg (bt s p) < 0) = false := by simpa using hd
  generalize bt s p = c at *
  clear hd
  generalize dg c = d at *
  go_enter Tryd.func54, Tryd.ntmps54
  go_wp2_with (first | (go_at_call 45; refine hby.mono ?_; rintro r w1 ⟨rfl, h1, b1⟩; obtain ⟨c0, c1, c3, f1, f3⟩ := h1.cells) | (go_at_call 58; refine (hdg _).mono ?_; rintro r w2 ⟨rfl, rfl⟩))
  go_ret
  exact ⟨rfl, h1.set1 (p + 1), b1.setCell (p := ⟨b, 1, none⟩) (Nat.le_refl _) _⟩
theorem dg_zero : dg 0 = -1 := rfl
theorem rd_hex_bad (b : Nat) (s : ByteArray) (p : Nat) (l : List UInt8) (w : World) (hp : p ≤ s.size) (hd : ¬ (p < s.size ∧ 0 ≤ dg (bt s p))) (hs : s.size ≤ 1000000) (h : Rd b s p 0 l w) :
    Calls Tryd.prog 54 #[.pointer (some ⟨b, 0, none⟩)] w fun r w' => r = .returned (.int .i32 (-1)) ∧ Rd b s p (fe s p) l w' ∧ Below b w w' := by
  have hfe : fe s p ≠ 0 := by unfold fe; split <;> decide
  have tf : decide (fe s p = 0) = false := by simpa using hfe
  have tf2 : (fe s p == 0) = false := by simpa using hfe
  by_cases hlt : p < s.size
  · have hby := rd_byte b s p l w hlt hs h
    have hst := fun W h => rd_stop b s p l W hp hs h
    have hdg := gl_digit (bt s p) (bt_lt s p)
    have hd1 : dg (bt s p) = -1 := by have := (dg_bd (bt s p)).1; have : ¬ 0 ≤ dg (bt s p) := fun h => hd ⟨hlt, h⟩; omega
    rw [hd1] at hdg
    clear hd hd1
    generalize fe s p = e at *
    generalize bt s p = c at *
    go_enter Tryd.func54, Tryd.ntmps54
    go_wp2_with (first | (go_at_call 45; refine hby.mono ?_; rintro r w1 ⟨rfl, h1, b1⟩) | (go_at_call 58; refine (hdg _).mono ?_; rintro r w2 ⟨rfl, rfl⟩) | (go_at_call 47; refine (hst _ h1).mono ?_; rintro r w3 ⟨rfl, h2, b2⟩; obtain ⟨c0, c1, c3, f1, f3⟩ := h2.cells))
    go_ret
    exact ⟨rfl, h2, b1.trans b2⟩
  · obtain rfl : p = s.size := by omega
    have hby := rd_byte_end b s l w hs h
    have hfe2 : fe s s.size = 2 := by unfold fe; rw [if_neg hlt]
    have hst := fun W h => rd_stop_err b s s.size 2 (by decide) l W h
    have hdg := gl_digit 0 (by decide)
    rw [dg_zero] at hdg
    rw [hfe2]
    clear hd hfe tf tf2 hfe2
    go_enter Tryd.func54, Tryd.ntmps54
    go_wp2_with (first | (go_at_call 45; refine hby.mono ?_; rintro r w1 ⟨rfl, h1, b1⟩) | (go_at_call 58; refine (hdg _).mono ?_; rintro r w2 ⟨rfl, rfl⟩) | (go_at_call 47; refine (hst _ h1).mono ?_; rintro r w2 ⟨rfl, rfl⟩; obtain ⟨c0, c1, c3, f1, f3⟩ := h1.cells))
    go_ret
    exact ⟨rfl, h1, b1⟩
theorem rd_hex_err (b : Nat) (s : ByteArray) (p : Nat) (e : Int) (he : e ≠ 0) (l : List UInt8) (w : World) (h : Rd b s p e l w) :
    Calls Tryd.prog 54 #[.pointer (some ⟨b, 0, none⟩)] w fun r w' => r = .returned (.int .i32 (-1)) ∧ Rd b s p e l w' ∧ Below b w w' := by
  have hby := rd_byte_err b s p e he l w h
  have hst := fun W h => rd_stop_err b s p e he l W h
  have hdg := gl_digit 0 (by decide)
  rw [dg_zero] at hdg
  have tf : decide (e = 0) = false := by simpa using he
  have tf2 : (e == 0) = false := by simpa using he
  go_enter Tryd.func54, Tryd.ntmps54
  go_wp2_with (first | (go_at_call 45; refine hby.mono ?_; rintro r w1 ⟨rfl, h1, b1⟩) | (go_at_call 58; refine (hdg _).mono ?_; rintro r w2 ⟨rfl, rfl⟩) | (go_at_call 47; refine (hst _ h1).mono ?_; rintro r w2 ⟨rfl, rfl⟩; obtain ⟨c0, c1, c3, f1, f3⟩ := h1.cells))
  go_ret
  exact ⟨rfl, h1, b1⟩
end Go.Proofs.YtjldmlnohkknpaaDoor
