/- Package glyph's reader of quoted texts: escape, walked. Made by gen_reader3.py. -/
import Derived.Test.YtjldmlnohkknpaaDoorReader2
namespace Go.Proofs.YtjldmlnohkknpaaDoor
open Go.RowKit
set_option maxRecDepth 100000
set_option maxHeartbeats 4000000
def byteZ (d : Int) : UInt8 := d.toNat.toUInt8
theorem byteZ_toNat (d : Int) (h0 : 0 ≤ d) (h1 : d ≤ 255) : ((byteZ d).toNat : Int) = d := by
  unfold byteZ
  have : (d.toNat.toUInt8).toNat = d.toNat := by simp [UInt8.toNat_ofNat']; omega
  rw [this]; omega
theorem cells_app (l : List UInt8) (x : UInt8) : Lib.byteCells (l ++ [x]) = Lib.byteCells l ++ [.int .u8 x.toNat] := by rw [Lib.byteCells_append]; rfl
def xQ (s : ByteArray) (p : Nat) : Qs :=
  if p < s.size ∧ 0 ≤ dg (bt s p) then
    (if p + 1 < s.size ∧ 0 ≤ dg (bt s (p + 1)) then .ok (p + 2) [byteZ (dg (bt s p) * 16 + dg (bt s (p + 1)))] else .bad (p + 1))
  else .bad p
/-- What stands behind a backslash. -/
def escQ (s : ByteArray) (p : Nat) : Qs :=
  if p < s.size then
    (if bt s p = 34 ∨ bt s p = 92 then .ok (p + 1) [s.get! p] else if bt s p = 110 then .ok (p + 1) [10] else if bt s p = 117 then numQ s (p + 1) else if bt s p = 120 then xQ s (p + 1) else .bad p)
  else .bad p
theorem bt_toNat (s : ByteArray) (p : Nat) : (s.get! p).toNat = bt s p := rfl
theorem esc_q (b : Nat) (s : ByteArray) (p : Nat) (l : List UInt8) (w : World) (hp : p < s.size) (hc : bt s p = 34) (hs : s.size ≤ 1000000) (hl : l.length ≤ 100000000) (h : Rd b s p 0 l w) :
    Calls Tryd.prog 46 #[.pointer (some ⟨b, 0, none⟩)] w fun r w' => r = .returned (.tuple #[]) ∧ RdQ b s l (.ok (p + 1) [s.get! p]) w' ∧ Below b w w' := by
  have hby := rd_byte b s p l w hp hs h
  have hx : ∃ x : UInt8, [s.get! p] = [x] ∧ x.toNat = 34 := ⟨s.get! p, rfl, by rw [bt_toNat, hc]⟩
  rw [hc] at hby
  obtain ⟨x, hx, hxn⟩ := hx
  rw [hx]
  have HX := Lib.hid hxn
  clear hc hx hxn
  have hinfo : (Tryd.prog.info? 5).map (fun i => (i.zero, i.size, i.bytes)) = some (some (.int .u8 0), 1, 1) := by kernel_rfl
  obtain ⟨i0, hi, hz0, hz1, hz2⟩ := info_parts hinfo
  have hll : (Lib.byteCells l).length = l.length := Lib.byteCells_length l
  have HLL := Lib.hid hll
  clear hll hinfo
  go_enter Tryd.func46, Tryd.ntmps46
  go_upto_region 6 with (go_at_call 45; refine hby.mono ?_; rintro r w1 ⟨rfl, h1, b1⟩; obtain ⟨c0, c1, c3, f1, f3⟩ := h1.cells)
  refine wp_world (fun W => Rd b s (p + 1) 0 l W ∧ Below b w W) ⟨h1.set1 (p + 1), b1.setCell (p := ⟨b, 1, none⟩) (Nat.le_refl _) _⟩ ?_
  clear h1 b1 c0 c1 c3 f1 f3 hby
  rintro W ⟨hr, hbw⟩
  obtain ⟨v, hB, hown, hne⟩ := hr
  obtain ⟨ao, cap, rfl⟩ := own_shape hown
  have c2 : W.cell? ⟨b, 2, none⟩ = some (.slice ao l.length cap) := hB.cell 2
  have hsz := hB.lt
  go_wp2_with (at_builtin; refine wpList_append_ownF _ rfl _ _ 46 rfl b 5 i0 (.int .u8 0) 1 1 Tryd.underlying46 hi hz0 hz1 hz2 rfl (by decide) _ _ _ rfl (hown.alloc _) ⟨W.heap.size, 0, none⟩ 1 1 [.int .u8 34] rfl rfl ?c1 ?c2 ?c3 ?c4 ?c5 ?_)
  case c1 =>
    intro j u hj
    match j, hj with
    | 0, hj => simp at hj; subst hj; simp [Addr.add]
  case c2 => intro u hu; simp at hu; subst hu; rfl
  case c3 => unfold maxLen; omega
  case c4 => omega
  case c5 => simp; omega
  intro v' w2 hown' hgrow _
  have hB2 := app_blk hB hne hgrow
  obtain ⟨ao', cap', rfl⟩ := own_shape hown'
  have f2 := hB2.free 2
  have q2 : w2.cell? ⟨b, 2, none⟩ = some (.slice ao l.length cap) := hB2.cell 2
  go_wp2
  go_end0
  exact ⟨rfl, ⟨by omega, app_rd (l ++ [x]) hB2 hown' (by simp) (by rw [cells_app, HX.out]; rfl)⟩, app_below hbw (by omega) hown hgrow _⟩
theorem esc_b (b : Nat) (s : ByteArray) (p : Nat) (l : List UInt8) (w : World) (hp : p < s.size) (hc : bt s p = 92) (hs : s.size ≤ 1000000) (hl : l.length ≤ 100000000) (h : Rd b s p 0 l w) :
    Calls Tryd.prog 46 #[.pointer (some ⟨b, 0, none⟩)] w fun r w' => r = .returned (.tuple #[]) ∧ RdQ b s l (.ok (p + 1) [s.get! p]) w' ∧ Below b w w' := by
  have hby := rd_byte b s p l w hp hs h
  have hx : ∃ x : UInt8, [s.get! p] = [x] ∧ x.toNat = 92 := ⟨s.get! p, rfl, by rw [bt_toNat, hc]⟩
  rw [hc] at hby
  obtain ⟨x, hx, hxn⟩ := hx
  rw [hx]
  have HX := Lib.hid hxn
  clear hc hx hxn
  have hinfo : (Tryd.prog.info? 5).map (fun i => (i.zero, i.size, i.bytes)) = some (some (.int .u8 0), 1, 1) := by kernel_rfl
  obtain ⟨i0, hi, hz0, hz1, hz2⟩ := info_parts hinfo
  have hll : (Lib.byteCells l).length = l.length := Lib.byteCells_length l
  have HLL := Lib.hid hll
  clear hll hinfo
  go_enter Tryd.func46, Tryd.ntmps46
  go_upto_region 6 with (go_at_call 45; refine hby.mono ?_; rintro r w1 ⟨rfl, h1, b1⟩; obtain ⟨c0, c1, c3, f1, f3⟩ := h1.cells)
  refine wp_world (fun W => Rd b s (p + 1) 0 l W ∧ Below b w W) ⟨h1.set1 (p + 1), b1.setCell (p := ⟨b, 1, none⟩) (Nat.le_refl _) _⟩ ?_
  clear h1 b1 c0 c1 c3 f1 f3 hby
  rintro W ⟨hr, hbw⟩
  obtain ⟨v, hB, hown, hne⟩ := hr
  obtain ⟨ao, cap, rfl⟩ := own_shape hown
  have c2 : W.cell? ⟨b, 2, none⟩ = some (.slice ao l.length cap) := hB.cell 2
  have hsz := hB.lt
  go_wp2_with (at_builtin; refine wpList_append_ownF _ rfl _ _ 46 rfl b 5 i0 (.int .u8 0) 1 1 Tryd.underlying46 hi hz0 hz1 hz2 rfl (by decide) _ _ _ rfl (hown.alloc _) ⟨W.heap.size, 0, none⟩ 1 1 [.int .u8 92] rfl rfl ?c1 ?c2 ?c3 ?c4 ?c5 ?_)
  case c1 =>
    intro j u hj
    match j, hj with
    | 0, hj => simp at hj; subst hj; simp [Addr.add]
  case c2 => intro u hu; simp at hu; subst hu; rfl
  case c3 => unfold maxLen; omega
  case c4 => omega
  case c5 => simp; omega
  intro v' w2 hown' hgrow _
  have hB2 := app_blk hB hne hgrow
  obtain ⟨ao', cap', rfl⟩ := own_shape hown'
  have f2 := hB2.free 2
  have q2 : w2.cell? ⟨b, 2, none⟩ = some (.slice ao l.length cap) := hB2.cell 2
  go_wp2
  go_end0
  exact ⟨rfl, ⟨by omega, app_rd (l ++ [x]) hB2 hown' (by simp) (by rw [cells_app, HX.out]; rfl)⟩, app_below hbw (by omega) hown hgrow _⟩
theorem esc_n (b : Nat) (s : ByteArray) (p : Nat) (l : List UInt8) (w : World) (hp : p < s.size) (hc : bt s p = 110) (hs : s.size ≤ 1000000) (hl : l.length ≤ 100000000) (h : Rd b s p 0 l w) :
    Calls Tryd.prog 46 #[.pointer (some ⟨b, 0, none⟩)] w fun r w' => r = .returned (.tuple #[]) ∧ RdQ b s l (.ok (p + 1) [10]) w' ∧ Below b w w' := by
  have hby := rd_byte b s p l w hp hs h
  have hx : ∃ x : UInt8, [10] = [x] ∧ x.toNat = 10 := ⟨10, rfl, rfl⟩
  rw [hc] at hby
  obtain ⟨x, hx, hxn⟩ := hx
  rw [hx]
  have HX := Lib.hid hxn
  clear hc hx hxn
  have hinfo : (Tryd.prog.info? 5).map (fun i => (i.zero, i.size, i.bytes)) = some (some (.int .u8 0), 1, 1) := by kernel_rfl
  obtain ⟨i0, hi, hz0, hz1, hz2⟩ := info_parts hinfo
  have hll : (Lib.byteCells l).length = l.length := Lib.byteCells_length l
  have HLL := Lib.hid hll
  clear hll hinfo
  go_enter Tryd.func46, Tryd.ntmps46
  go_upto_region 9 with (go_at_call 45; refine hby.mono ?_; rintro r w1 ⟨rfl, h1, b1⟩; obtain ⟨c0, c1, c3, f1, f3⟩ := h1.cells)
  refine wp_world (fun W => Rd b s (p + 1) 0 l W ∧ Below b w W) ⟨h1.set1 (p + 1), b1.setCell (p := ⟨b, 1, none⟩) (Nat.le_refl _) _⟩ ?_
  clear h1 b1 c0 c1 c3 f1 f3 hby
  rintro W ⟨hr, hbw⟩
  obtain ⟨v, hB, hown, hne⟩ := hr
  obtain ⟨ao, cap, rfl⟩ := own_shape hown
  have c2 : W.cell? ⟨b, 2, none⟩ = some (.slice ao l.length cap) := hB.cell 2
  have hsz := hB.lt
  go_wp2_with (at_builtin; refine wpList_append_ownF _ rfl _ _ 46 rfl b 5 i0 (.int .u8 0) 1 1 Tryd.underlying46 hi hz0 hz1 hz2 rfl (by decide) _ _ _ rfl (hown.alloc _) ⟨W.heap.size, 0, none⟩ 1 1 [.int .u8 10] rfl rfl ?c1 ?c2 ?c3 ?c4 ?c5 ?_)
  case c1 =>
    intro j u hj
    match j, hj with
    | 0, hj => simp at hj; subst hj; simp [Addr.add]
  case c2 => intro u hu; simp at hu; subst hu; rfl
  case c3 => unfold maxLen; omega
  case c4 => omega
  case c5 => simp; omega
  intro v' w2 hown' hgrow _
  have hB2 := app_blk hB hne hgrow
  obtain ⟨ao', cap', rfl⟩ := own_shape hown'
  have f2 := hB2.free 2
  have q2 : w2.cell? ⟨b, 2, none⟩ = some (.slice ao l.length cap) := hB2.cell 2
  go_wp2
  go_end0
  exact ⟨rfl, ⟨by omega, app_rd (l ++ [x]) hB2 hown' (by simp) (by rw [cells_app, HX.out]; rfl)⟩, app_below hbw (by omega) hown hgrow _⟩
theorem esc_u (b : Nat) (s : ByteArray) (p : Nat) (l : List UInt8) (w : World) (hp : p < s.size) (hc : bt s p = 117) (hs : s.size ≤ 1000000) (hl : l.length ≤ 100000000) (h : Rd b s p 0 l w) :
    Calls Tryd.prog 46 #[.pointer (some ⟨b, 0, none⟩)] w fun r w' => r = .returned (.tuple #[]) ∧ RdQ b s l (numQ s (p + 1)) w' ∧ Below b w w' := by
  have hby := rd_byte b s p l w hp hs h
  have hnu := fun W h => rd_number b s (p + 1) l W (by omega) hs hl h
  rw [hc] at hby
  clear hc
  generalize numQ s (p + 1) = q at *
  go_enter Tryd.func46, Tryd.ntmps46
  go_upto_region 12 with (go_at_call 45; refine hby.mono ?_; rintro r w1 ⟨rfl, h1, b1⟩; obtain ⟨c0, c1, c3, f1, f3⟩ := h1.cells)
  refine wp_world (fun W => Rd b s (p + 1) 0 l W ∧ Below b w W) ⟨h1.set1 (p + 1), b1.setCell (p := ⟨b, 1, none⟩) (Nat.le_refl _) _⟩ ?_
  clear h1 b1 c0 c1 c3 f1 f3 hby
  rintro W ⟨hr, hbw⟩
  go_wp2_with (go_at_call 53; refine (hnu _ hr).mono ?_; rintro r w2 ⟨rfl, h2, b2⟩)
  go_end0
  exact ⟨rfl, h2, hbw.trans b2⟩
theorem esc_x (p1 p2 : Nat) (e1 e2 d1 d2 : Int) (b : Nat) (s : ByteArray) (p : Nat) (l : List UInt8) (w : World) (hp : p < s.size) (hc : bt s p = 120) (hs : s.size ≤ 1000000) (hl : l.length ≤ 100000000) (h : Rd b s p 0 l w)
    (k1 : ∀ W, Rd b s (p + 1) 0 l W → Calls Tryd.prog 54 #[.pointer (some ⟨b, 0, none⟩)] W fun r w' => r = .returned (.int .i32 d1) ∧ Rd b s p1 e1 l w' ∧ Below b W w')
    (k2 : ∀ W, Rd b s p1 e1 l W → Calls Tryd.prog 54 #[.pointer (some ⟨b, 0, none⟩)] W fun r w' => r = .returned (.int .i32 d2) ∧ Rd b s p2 e2 l w' ∧ Below b W w') :
    Calls Tryd.prog 46 #[.pointer (some ⟨b, 0, none⟩)] w fun r w' => r = .returned (.tuple #[]) ∧ Rd b s p2 e2 (l ++ [byteZ (IntKind.u8.wrap (bits .or .i32 (wrap32 (d1 * 16)) d2))]) w' ∧ Below b w w' := by
  have hby := rd_byte b s p l w hp hs h
  rw [hc] at hby
  clear hc
  obtain ⟨z, hz⟩ : ∃ z, IntKind.u8.wrap (bits .or .i32 (wrap32 (d1 * 16)) d2) = z := ⟨_, rfl⟩
  rw [hz]
  have HZ := Lib.hid hz
  clear hz
  have hinfo : (Tryd.prog.info? 5).map (fun i => (i.zero, i.size, i.bytes)) = some (some (.int .u8 0), 1, 1) := by kernel_rfl
  obtain ⟨i0, hi, hz0, hz1, hz2⟩ := info_parts hinfo
  have hll : (Lib.byteCells l).length = l.length := Lib.byteCells_length l
  have HLL := Lib.hid hll
  clear hll hinfo
  go_enter Tryd.func46, Tryd.ntmps46
  go_upto_region 15 with (go_at_call 45; refine hby.mono ?_; rintro r w1 ⟨rfl, h1, b1⟩; obtain ⟨c0, c1, c3, f1, f3⟩ := h1.cells)
  refine wp_world (fun W => Rd b s (p + 1) 0 l W ∧ Below b w W) ⟨h1.set1 (p + 1), b1.setCell (p := ⟨b, 1, none⟩) (Nat.le_refl _) _⟩ ?_
  clear h1 b1 c0 c1 c3 f1 f3 hby
  rintro W1 ⟨hr1, hbw⟩
  go_upto_region 16 with (go_at_call 54; refine (k1 _ hr1).mono ?_; rintro r w2 ⟨rfl, h2, b2⟩; replace hbw := hbw.trans b2)
  go_upto_region 17 with (go_at_call 54; refine (k2 _ h2).mono ?_; rintro r W ⟨rfl, hr, b3⟩; replace hbw := hbw.trans b3)
  have hz := HZ.out
  clear HZ
  generalize bits .or .i32 (wrap32 (d1 * 16)) d2 = g at hz ⊢
  have hwi := wrap_within .u8 g
  have hzb : 0 ≤ z ∧ z ≤ 255 := by rw [← hz]; exact hwi
  clear hwi
  obtain ⟨v, hB, hown, hne⟩ := hr
  obtain ⟨ao, cap, rfl⟩ := own_shape hown
  have c2 : W.cell? ⟨b, 2, none⟩ = some (.slice ao l.length cap) := hB.cell 2
  have hsz := hB.lt
  go_wp2_with (at_builtin; refine wpList_append_ownF _ rfl _ _ 46 rfl b 5 i0 (.int .u8 0) 1 1 Tryd.underlying46 hi hz0 hz1 hz2 rfl (by decide) _ _ _ rfl (hown.alloc _) ⟨W.heap.size, 0, none⟩ 1 1 [.int .u8 z] rfl rfl ?c1 ?c2 ?c3 ?c4 ?c5 ?_)
  case c1 =>
    intro j u hj
    match j, hj with
    | 0, hj => simp at hj; subst hj; simp [Addr.add]
  case c2 => intro u hu; simp at hu; subst hu; rfl
  case c3 => unfold maxLen; omega
  case c4 => omega
  case c5 => simp; omega
  intro v' w2 hown' hgrow _
  have hB2 := app_blk hB hne hgrow
  obtain ⟨ao', cap', rfl⟩ := own_shape hown'
  have f2 := hB2.free 2
  have q2 : w2.cell? ⟨b, 2, none⟩ = some (.slice ao l.length cap) := hB2.cell 2
  go_wp2
  go_end0
  exact ⟨rfl, app_rd (l ++ [byteZ z]) hB2 hown' (by simp) (by rw [cells_app, byteZ_toNat z hzb.1 hzb.2]), app_below hbw (by omega) hown hgrow _⟩
theorem esc_else (b : Nat) (s : ByteArray) (p : Nat) (l : List UInt8) (w : World) (hp : p < s.size) (hc : ¬ (bt s p = 34 ∨ bt s p = 92 ∨ bt s p = 110 ∨ bt s p = 117 ∨ bt s p = 120)) (hs : s.size ≤ 1000000) (_hl : l.length ≤ 100000000) (h : Rd b s p 0 l w) :
    Calls Tryd.prog 46 #[.pointer (some ⟨b, 0, none⟩)] w fun r w' => r = .returned (.tuple #[]) ∧ RdQ b s l (.bad p) w' ∧ Below b w w' := by
  have hby := rd_byte b s p l w hp hs h
  have hst := fun W h => rd_stop b s p l W (by omega) hs h
  have t0 : decide ((bt s p : Int) = 34) = false := by simp; omega
  have u0 : ((bt s p : Int) == 34) = false := by simp; omega
  have t1 : decide ((bt s p : Int) = 92) = false := by simp; omega
  have u1 : ((bt s p : Int) == 92) = false := by simp; omega
  have t2 : decide ((bt s p : Int) = 110) = false := by simp; omega
  have u2 : ((bt s p : Int) == 110) = false := by simp; omega
  have t3 : decide ((bt s p : Int) = 117) = false := by simp; omega
  have u3 : ((bt s p : Int) == 117) = false := by simp; omega
  have t4 : decide ((bt s p : Int) = 120) = false := by simp; omega
  have u4 : ((bt s p : Int) == 120) = false := by simp; omega
  clear hc
  generalize bt s p = c at *
  go_enter Tryd.func46, Tryd.ntmps46
  go_wp2_with (first | (go_at_call 45; refine hby.mono ?_; rintro r w1 ⟨rfl, h1, b1⟩) | (go_at_call 47; refine (hst _ h1).mono ?_; rintro r w2 ⟨rfl, h2, b2⟩))
  go_end0
  exact ⟨rfl, ⟨by omega, l, h2⟩, b1.trans b2⟩
theorem esc_end (b : Nat) (s : ByteArray) (l : List UInt8) (w : World) (hs : s.size ≤ 1000000) (h : Rd b s s.size 0 l w) :
    Calls Tryd.prog 46 #[.pointer (some ⟨b, 0, none⟩)] w fun r w' => r = .returned (.tuple #[]) ∧ RdQ b s l (.bad s.size) w' ∧ Below b w w' := by
  have hby := rd_byte_end b s l w hs h
  have hst := fun W h => rd_stop_err b s s.size 2 (by decide) l W h
  have hfe2 : fe s s.size = 2 := by unfold fe; rw [if_neg (by omega)]
  have HF := Lib.hid hfe2
  clear hfe2
  go_enter Tryd.func46, Tryd.ntmps46
  go_wp2_with (first | (go_at_call 45; refine hby.mono ?_; rintro r w1 ⟨rfl, h1, b1⟩) | (go_at_call 47; refine (hst _ h1).mono ?_; rintro r w2 ⟨rfl, rfl⟩))
  go_end0
  exact ⟨rfl, ⟨Nat.le_refl _, l, by rw [HF.out]; exact h1⟩, b1⟩
/-- escape, whatever stands there. -/
theorem rd_escape (b : Nat) (s : ByteArray) (p : Nat) (l : List UInt8) (w : World) (hp : p ≤ s.size) (hs : s.size ≤ 1000000) (hl : l.length ≤ 100000000) (h : Rd b s p 0 l w) :
    Calls Tryd.prog 46 #[.pointer (some ⟨b, 0, none⟩)] w fun r w' => r = .returned (.tuple #[]) ∧ RdQ b s l (escQ s p) w' ∧ Below b w w' := by
  unfold escQ
  by_cases hlt : p < s.size
  · rw [if_pos hlt]
    by_cases h1 : bt s p = 34 ∨ bt s p = 92
    · rw [if_pos h1]
      rcases h1 with h1 | h1
      · exact esc_q b s p l w hlt h1 hs hl h
      · exact esc_b b s p l w hlt h1 hs hl h
    · rw [if_neg h1]
      by_cases h2 : bt s p = 110
      · rw [if_pos h2]; exact esc_n b s p l w hlt h2 hs hl h
      · rw [if_neg h2]
        by_cases h3 : bt s p = 117
        · rw [if_pos h3]; exact esc_u b s p l w hlt h3 hs hl h
        · rw [if_neg h3]
          by_cases h4 : bt s p = 120
          · rw [if_pos h4]
            unfold xQ
            by_cases a1 : p + 1 < s.size ∧ 0 ≤ dg (bt s (p + 1))
            · rw [if_pos a1]
              by_cases a2 : p + 1 + 1 < s.size ∧ 0 ≤ dg (bt s (p + 1 + 1))
              · rw [if_pos a2]
                refine (esc_x (p + 2) (p + 3) 0 0 (dg (bt s (p + 1))) (dg (bt s (p + 1 + 1))) b s p l w hlt h4 hs hl h (fun W h => rd_hex b s (p + 1) l W a1.1 a1.2 hs h) (fun W h => rd_hex b s (p + 2) l W a2.1 a2.2 hs h)).mono ?_
                rintro r w' ⟨rfl, h2, b2⟩
                have q1 := (dg_bd (bt s (p + 1))).2
                have q2 := (dg_bd (bt s (p + 1 + 1))).2
                rw [or16 _ _ a1.2 (by omega) a2.2 q2, IntWalk.u8_in _ (by have := a1.2; have := a2.2; omega)] at h2
                exact ⟨rfl, ⟨by omega, h2⟩, b2⟩
              · rw [if_neg a2]
                refine (esc_x (p + 2) (p + 2) 0 (fe s (p + 2)) (dg (bt s (p + 1))) (-1) b s p l w hlt h4 hs hl h (fun W h => rd_hex b s (p + 1) l W a1.1 a1.2 hs h) (fun W h => rd_hex_bad b s (p + 2) l W (by omega) a2 hs h)).mono ?_
                rintro r w' ⟨rfl, h2, b2⟩
                exact ⟨rfl, ⟨by omega, _, h2⟩, b2⟩
            · rw [if_neg a1]
              refine (esc_x (p + 1) (p + 1) (fe s (p + 1)) (fe s (p + 1)) (-1) (-1) b s p l w hlt h4 hs hl h (fun W h => rd_hex_bad b s (p + 1) l W (by omega) a1 hs h) (fun W h => rd_hex_err b s (p + 1) (fe s (p + 1)) (fe_ne s (p + 1)) l W h)).mono ?_
              rintro r w' ⟨rfl, h2, b2⟩
              exact ⟨rfl, ⟨by omega, _, h2⟩, b2⟩
          · rw [if_neg h4]
            exact esc_else b s p l w hlt (by omega) hs hl h
  · rw [if_neg hlt]
    obtain rfl : p = s.size := by omega
    exact esc_end b s l w hs h
end Go.Proofs.YtjldmlnohkknpaaDoor
