/- What windows and painted planes are, of any rectangle: the program's and the reference's, as one function. -/
import Derived.Test.YtpjocfcemjdneaaRPlane4
import Derived.Test.YtpjocfcemjdneaaRSame
import Derived.Test.YtpjocfcemjdneaaMonoL
namespace Go.Proofs.Ytpjocfcemjdneaa
open Go.RowKit
set_option maxRecDepth 100000
structure PlaneRes where
  c : Int
  r : Int
  l : List (List Int)
  e : Int
/-- A plane and an error, as a function yields them. -/
def IsRes (lo : Nat) (W' : World) (R : PlaneRes) (e : Ending) : Prop := ∃ u, e = .returned (.tuple #[.agg #[.int .i64 R.c, .int .i64 R.r, u], .int .i64 R.e]) ∧ Row W' lo 34 64 u R.l.length (bcells R.l)
namespace Pl
def winR (c r : Int) (bs : List (List Int)) (a b h d : Int) : PlaneRes :=
  if werr c r bs.length a b h d = 0 then ⟨d, h, win bs c.toNat a.toNat b.toNat d.toNat h.toNat, 0⟩ else ⟨0, 0, [], werr c r bs.length a b h d⟩
def pntR (c r : Int) (bs : List (List Int)) (x : List Int) (a b h d : Int) : PlaneRes :=
  if werr c r bs.length a b h d = 0 then ⟨c, r, pnt bs (insI a.toNat b.toNat h.toNat d.toNat c.toNat) x bs.length, 0⟩ else ⟨0, 0, [], werr c r bs.length a b h d⟩
theorem winR_right {bs : List (List Int)} (h64 : Right64 bs) (c r a b h d : Int) : Right64 (winR c r bs a b h d).l := by
  unfold winR
  split
  · exact win_right h64 _ _ _ _ _
  · exact fun x hx => by cases hx
theorem pntR_right {bs : List (List Int)} (h64 : Right64 bs) {x : List Int} (hx : x.length = 64) (c r a b h d : Int) : Right64 (pntR c r bs x a b h d).l := by
  unfold pntR
  split
  · exact pnt_right h64 _ hx _
  · exact fun x hx => by cases hx
theorem pntR_len (bs : List (List Int)) (x : List Int) (c r a b h d : Int) : (pntR c r bs x a b h d).l.length ≤ bs.length := by
  unfold pntR
  split
  · simp only [pnt_len]; exact Nat.le_refl _
  · exact Nat.zero_le _
theorem winR_len {bs : List (List Int)} (c r a b h d : Int) : (winR c r bs a b h d).l.length ≤ bs.length := by
  unfold winR
  split
  · rename_i hz
    unfold werr at hz
    by_cases hr : right c r bs.length = true
    · rw [if_pos hr] at hz
      by_cases ho : out c r a b h d
      · rw [if_pos ho] at hz; cases hz
      · obtain ⟨k1, k2, k3, k4, k5, k6⟩ := right_nat hr
        obtain ⟨o1, o2, o3, o4, o5, o6⟩ := not_out ho
        obtain ⟨c, rfl⟩ : ∃ k : Nat, c = k := ⟨c.toNat, by omega⟩
        obtain ⟨r, rfl⟩ : ∃ k : Nat, r = k := ⟨r.toNat, by omega⟩
        obtain ⟨a, rfl⟩ : ∃ k : Nat, a = k := ⟨a.toNat, by omega⟩
        obtain ⟨b, rfl⟩ : ∃ k : Nat, b = k := ⟨b.toNat, by omega⟩
        obtain ⟨h, rfl⟩ : ∃ k : Nat, h = k := ⟨h.toNat, by omega⟩
        obtain ⟨d, rfl⟩ : ∃ k : Nat, d = k := ⟨d.toNat, by omega⟩
        have hn : bs.length = c * r := by exact_mod_cast k5
        simp only [Int.toNat_natCast]
        rw [← sel_win hn (by omega) (by omega) (by omega)]
        exact sel_len _ _ _
    · rw [if_neg hr] at hz; cases hz
  · exact Nat.zero_le _
end Pl
theorem ref_window_no (c r : Int) (n : Nat) (bu : Option Addr) (cap : Nat) (a b h d : Int) (e0 : Int) (he : e0 ≠ 0) (w : World)
    (hw : ∀ W, Calls Try.prog 36 #[.agg #[.int .i64 c, .int .i64 r, .slice bu n cap], .agg #[.int .i64 a, .int .i64 b, .int .i64 h, .int .i64 d]] W fun e w' => e = .returned (.int .i64 e0) ∧ Below W.heap.size W w') :
    Calls Try.prog 22 #[.agg #[.int .i64 c, .int .i64 r, .slice bu n cap], .agg #[.int .i64 a, .int .i64 b, .int .i64 h, .int .i64 d]] w fun e w' => e = .returned (.tuple #[.agg #[.int .i64 0, .int .i64 0, .slice none 0 0], .int .i64 e0]) ∧ Below w.heap.size w w' := by
  obtain ⟨N, hN⟩ : ∃ N, N = w.heap.size := ⟨_, rfl⟩
  have HN := Lib.hid hN
  rw [← hN]
  clear hN
  go_enter Try.func22, Try.ntmps22
  go_upto_region 1 with fail
  refine wp_world (fun W => Blk W N #[.int .i64 c, .int .i64 r, .slice bu n cap] 24 ∧ Blk W (N + 1) #[.int .i64 a, .int .i64 b, .int .i64 h, .int .i64 d] 36 ∧ Blk W (N + 2) #[.int .i64 0, .int .i64 0, .slice none 0 0] 24 ∧ Below N w W)
    ⟨((Blk.new' _ _ _ HN.out).alloc _).alloc _, (Blk.new' _ _ _ (by simp [HN.out])).alloc _, Blk.new' _ _ _ (by simp [HN.out]), (((Below.refl _ _).alloc (by rw [HN.out]; exact Nat.le_refl _) _).alloc (by rw [HN.out]; simp) _).alloc (by rw [HN.out]; simp; omega) _⟩ ?_
  rintro W0 ⟨b0, b1, b2, hB⟩
  rw [← HN.out]
  have hw0 := hw W0
  have te : (e0 == 0) = false := by simpa using he
  have te2 : decide (e0 = 0) = false := by simpa using he
  have hN0 := b0.lt
  go_wp2_with (first
    | (refine wpList_load_row rfl 24 _ rfl N rfl 24 _ _ _ b0 Try.underlying24 rfl (by kernel_rfl) ?_)
    | (refine wpList_load_row rfl 36 _ rfl (N + 1) rfl 36 _ _ _ b1 Try.underlying36 rfl (by kernel_rfl) ?_)
    | (go_at_call 36; refine hw0.mono ?_; rintro e w1 ⟨rfl, hb⟩; have b21 := b2.below hb b2.lt; have hB1 := hB.trans (hb.mono (by omega)))
    | (refine wpList_store_row rfl 24 _ _ rfl (N+2) _ rfl rfl 24 _ b21 (by kernel_rfl) rfl (by simp [Value.oneCell']) ?_))
  refine bodyPost_ret (results_row_tmp rfl _ _ (N + 2) 24 _ _ rfl (b21.row _) Try.underlying24 rfl (by kernel_rfl)) rfl ?_
  exact ⟨rfl, Below.setRow hB1 (by omega) _⟩
theorem ref_paint_no (c r : Int) (n : Nat) (bu : Option Addr) (cap : Nat) (a b h d : Int) (x : List Int) (e0 : Int) (he : e0 ≠ 0) (w : World)
    (hw : ∀ W, Calls Try.prog 36 #[.agg #[.int .i64 c, .int .i64 r, .slice bu n cap], .agg #[.int .i64 a, .int .i64 b, .int .i64 h, .int .i64 d]] W fun e w' => e = .returned (.int .i64 e0) ∧ Below W.heap.size W w') :
    Calls Try.prog 24 #[.agg #[.int .i64 c, .int .i64 r, .slice bu n cap], .agg #[.int .i64 a, .int .i64 b, .int .i64 h, .int .i64 d], .agg (ints .i16 x)] w fun e w' => e = .returned (.tuple #[.agg #[.int .i64 0, .int .i64 0, .slice none 0 0], .int .i64 e0]) ∧ Below w.heap.size w w' := by
  obtain ⟨N, hN⟩ : ∃ N, N = w.heap.size := ⟨_, rfl⟩
  have HN := Lib.hid hN
  rw [← hN]
  clear hN
  go_enter Try.func24, Try.ntmps24
  go_upto_region 1 with fail
  refine wp_world (fun W => Blk W N #[.int .i64 c, .int .i64 r, .slice bu n cap] 24 ∧ Blk W (N + 1) #[.int .i64 a, .int .i64 b, .int .i64 h, .int .i64 d] 36 ∧ Blk W (N + 3) #[.int .i64 0, .int .i64 0, .slice none 0 0] 24 ∧ Below N w W)
    ⟨(((Blk.new' _ _ _ HN.out).alloc _).alloc _).alloc _, ((Blk.new' _ _ _ (by simp [HN.out])).alloc _).alloc _, Blk.new' _ _ _ (by simp [HN.out]), ((((Below.refl _ _).alloc (by rw [HN.out]; exact Nat.le_refl _) _).alloc (by rw [HN.out]; simp) _).alloc (by rw [HN.out]; simp; omega) _).alloc (by rw [HN.out]; simp; omega) _⟩ ?_
  rintro W0 ⟨b0, b1, b2, hB⟩
  rw [← HN.out]
  have hw0 := hw W0
  have te : (e0 == 0) = false := by simpa using he
  have te2 : decide (e0 = 0) = false := by simpa using he
  have hN0 := b0.lt
  go_wp2_with (first
    | (refine wpList_load_row rfl 24 _ rfl N rfl 24 _ _ _ b0 Try.underlying24 rfl (by kernel_rfl) ?_)
    | (refine wpList_load_row rfl 36 _ rfl (N + 1) rfl 36 _ _ _ b1 Try.underlying36 rfl (by kernel_rfl) ?_)
    | (go_at_call 36; refine hw0.mono ?_; rintro e w1 ⟨rfl, hb⟩; have b21 := b2.below hb b2.lt; have hB1 := hB.trans (hb.mono (by omega)))
    | (refine wpList_store_row rfl 24 _ _ rfl (N+3) _ rfl rfl 24 _ b21 (by kernel_rfl) rfl (by simp [Value.oneCell']) ?_))
  refine bodyPost_ret (results_row_tmp rfl _ _ (N + 3) 24 _ _ rfl (b21.row _) Try.underlying24 rfl (by kernel_rfl)) rfl ?_
  exact ⟨rfl, Below.setRow hB1 (by omega) _⟩
section
variable (c r : Int) (u : Value) (bs : List (List Int)) (h64 : Right64 bs) (a b h d : Int) (w : World) (hA : Ar w 64 u bs.length (bcells bs))
include h64 hA
theorem win_fn : Calls Try.prog 13 #[.agg #[.int .i64 c, .int .i64 r, u], .agg #[.int .i64 a, .int .i64 b, .int .i64 h, .int .i64 d]] w fun e w' => IsRes w.heap.size w' (Pl.winR c r bs a b h d) e ∧ Below w.heap.size w w' := by
  refine (plane_window_any c r u bs h64 a b h d w hA).mono fun e w' hh => ⟨?_, hh.1⟩
  unfold Pl.winR
  by_cases hz : Pl.werr c r bs.length a b h d = 0
  · rw [if_pos hz]
    obtain ⟨v, he, hw⟩ := hh.2.2 hz
    obtain ⟨k1, k2, k3, k4, k5, k6⟩ := Pl.right_nat hw.right
    have hl : (Pl.win bs c.toNat a.toNat b.toNat d.toNat h.toNat).length = h.toNat * d.toNat := by
      have a0 := hw.a0
      have b0 := hw.b0
      have h1 := hw.h1
      have d1 := hw.d1
      have ar := hw.ar
      have bc := hw.bc
      refine Pl.win_len (c := c.toNat) (r := r.toNat) (h := h.toNat) ?_ (by omega) (by omega) _ (Nat.le_refl _)
      obtain ⟨c, rfl⟩ : ∃ k : Nat, c = k := ⟨c.toNat, by omega⟩
      obtain ⟨r, rfl⟩ : ∃ k : Nat, r = k := ⟨r.toNat, by omega⟩
      exact_mod_cast k5
    exact ⟨v, he, by have := hw.row; rw [← hl] at this; exact this⟩
  · rw [if_neg hz]
    exact ⟨_, hh.2.1 hz, Row.nil _ _ _ _⟩
omit h64 in
/-- Of an error. -/
theorem no_cases (hz : Pl.werr c r bs.length a b h d ≠ 0) : (∃ bu cap, u = .slice bu bs.length cap ∧
    (∀ W, Calls Try.prog 32 #[.agg #[.int .i64 c, .int .i64 r, .slice bu bs.length cap], .agg #[.int .i64 a, .int .i64 b, .int .i64 h, .int .i64 d]] W fun e w' => e = .returned (.int .i64 (Pl.werr c r bs.length a b h d)) ∧ Below W.heap.size W w') ∧
    (∀ W, Calls Try.prog 36 #[.agg #[.int .i64 c, .int .i64 r, .slice bu bs.length cap], .agg #[.int .i64 a, .int .i64 b, .int .i64 h, .int .i64 d]] W fun e w' => e = .returned (.int .i64 (Pl.werr c r bs.length a b h d)) ∧ Below W.heap.size W w')) := by
  obtain ⟨bu, cap, rfl, -, -⟩ := hA.len
  refine ⟨bu, cap, rfl, ?_⟩
  by_cases hr : Pl.right c r bs.length = true
  · by_cases ho : Pl.out c r a b h d
    · have e : Pl.werr c r bs.length a b h d = 14 := by unfold Pl.werr; rw [if_pos hr, if_pos ho]
      rw [e]
      exact ⟨fun W => (plane_within c r bs.length bu cap a b h d hr W).mono fun e w' hh => ⟨hh.1 ho, hh.2.2⟩, fun W => (ref_within c r bs.length bu cap a b h d hr W).mono fun e w' hh => ⟨hh.1 ho, hh.2.2⟩⟩
    · have e : Pl.werr c r bs.length a b h d = 0 := by unfold Pl.werr; rw [if_pos hr, if_neg ho]
      exact absurd e hz
  · have e : Pl.werr c r bs.length a b h d = 1 := by unfold Pl.werr; rw [if_neg hr]
    rw [e]
    exact ⟨fun W => plane_within_bad c r bs.length bu cap a b h d (by simpa using hr) W, fun W => ref_within_bad c r bs.length bu cap a b h d (by simpa using hr) W⟩
omit h64 hA in
/-- Of no error: all are natural numbers, in bounds. -/
theorem yes_case (hz : Pl.werr c r bs.length a b h d = 0) : Pl.right c r bs.length = true ∧ ∃ c' r' a' b' h' d' : Nat, (c = c' ∧ r = r' ∧ a = a' ∧ b = b' ∧ h = h' ∧ d = d') ∧ bs.length = c' * r' ∧ a' + h' ≤ r' ∧ b' + d' ≤ c' ∧ 1 ≤ d' ∧ 1 ≤ h' := by
  unfold Pl.werr at hz
  by_cases hr : Pl.right c r bs.length = true
  · rw [if_pos hr] at hz
    by_cases ho : Pl.out c r a b h d
    · rw [if_pos ho] at hz; cases hz
    · obtain ⟨k1, k2, k3, k4, k5, k6⟩ := Pl.right_nat hr
      obtain ⟨o1, o2, o3, o4, o5, o6⟩ := Pl.not_out ho
      refine ⟨hr, c.toNat, r.toNat, a.toNat, b.toNat, h.toNat, d.toNat, ⟨by omega, by omega, by omega, by omega, by omega, by omega⟩, ?_, by omega, by omega, by omega, by omega⟩
      obtain ⟨c, rfl⟩ : ∃ k : Nat, c = k := ⟨c.toNat, by omega⟩
      obtain ⟨r, rfl⟩ : ∃ k : Nat, r = k := ⟨r.toNat, by omega⟩
      exact_mod_cast k5
  · rw [if_neg hr] at hz; cases hz
theorem ref_win_fn : Calls Try.prog 22 #[.agg #[.int .i64 c, .int .i64 r, u], .agg #[.int .i64 a, .int .i64 b, .int .i64 h, .int .i64 d]] w fun e w' => IsRes w.heap.size w' (Pl.winR c r bs a b h d) e ∧ Below w.heap.size w w' := by
  unfold Pl.winR
  by_cases hz : Pl.werr c r bs.length a b h d = 0
  · rw [if_pos hz]
    obtain ⟨hr, c, r, a, b, h, d, ⟨rfl, rfl, rfl, rfl, rfl, rfl⟩, hn, h1, h2, h3, h4⟩ := yes_case c r bs a b h d hz
    refine (ref_window c r a b h d u bs h64 hn hr h1 h2 h3 h4 w hA).mono ?_
    rintro e w' ⟨v, rfl, hR, hb⟩
    exact ⟨⟨v, rfl, by simpa using hR⟩, hb⟩
  · rw [if_neg hz]
    obtain ⟨bu, cap, rfl, _, hw⟩ := no_cases c r u bs a b h d w hA hz
    refine (ref_window_no c r bs.length bu cap a b h d _ hz w hw).mono ?_
    rintro e w' ⟨rfl, hb⟩
    exact ⟨⟨_, rfl, Row.nil _ _ _ _⟩, hb⟩
theorem ref_pnt_fn (x : List Int) (hx : x.length = 64) : Calls Try.prog 24 #[.agg #[.int .i64 c, .int .i64 r, u], .agg #[.int .i64 a, .int .i64 b, .int .i64 h, .int .i64 d], .agg (ints .i16 x)] w fun e w' => IsRes w.heap.size w' (Pl.pntR c r bs x a b h d) e ∧ Below w.heap.size w w' := by
  unfold Pl.pntR
  by_cases hz : Pl.werr c r bs.length a b h d = 0
  · rw [if_pos hz]
    obtain ⟨hr, c, r, a, b, h, d, ⟨rfl, rfl, rfl, rfl, rfl, rfl⟩, hn, h1, h2, h3, h4⟩ := yes_case c r bs a b h d hz
    refine (ref_paint c r a b h d u bs x hx h64 hn hr h1 h2 h3 h4 w hA).mono ?_
    rintro e w' ⟨v, rfl, hR, hb⟩
    exact ⟨⟨v, rfl, by simpa [Pl.pnt_len] using hR⟩, hb⟩
  · rw [if_neg hz]
    obtain ⟨bu, cap, rfl, _, hw⟩ := no_cases c r u bs a b h d w hA hz
    refine (ref_paint_no c r bs.length bu cap a b h d x _ hz w hw).mono ?_
    rintro e w' ⟨rfl, hb⟩
    exact ⟨⟨_, rfl, Row.nil _ _ _ _⟩, hb⟩
theorem pnt_fn (x : List Int) (hx : x.length = 64) : Calls Try.prog 23 #[.agg #[.int .i64 c, .int .i64 r, u], .agg #[.int .i64 a, .int .i64 b, .int .i64 h, .int .i64 d], .agg (ints .i16 x)] w fun e w' => IsRes w.heap.size w' (Pl.pntR c r bs x a b h d) e ∧ Below w.heap.size w w' := by
  unfold Pl.pntR
  by_cases hz : Pl.werr c r bs.length a b h d = 0
  · rw [if_pos hz]
    obtain ⟨hr, c, r, a, b, h, d, ⟨rfl, rfl, rfl, rfl, rfl, rfl⟩, hn, h1, h2, h3, h4⟩ := yes_case c r bs a b h d hz
    refine (plane_paint c r a b h d u bs x h64 hx hn hr h1 h2 h3 h4 w hA).mono ?_
    rintro e w' ⟨v, L, rfl, hp, hR, hb⟩
    have := hp.eq (Pl.insI a b h d c) (Pl.insI_iff a b h d c)
    subst this
    exact ⟨⟨v, rfl, by simpa [Pl.pnt_len] using hR⟩, hb⟩
  · rw [if_neg hz]
    obtain ⟨bu, cap, rfl, hw, _⟩ := no_cases c r u bs a b h d w hA hz
    refine (plane_paint_no c r bs.length bu cap a b h d x _ hz w hw).mono ?_
    rintro e w' ⟨rfl, hb⟩
    exact ⟨⟨_, rfl, Row.nil _ _ _ _⟩, hb⟩
end
end Go.Proofs.Ytpjocfcemjdneaa
