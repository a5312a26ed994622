/- Package plane's Paint, walked; the reference's Inside. -/
import Derived.Test.YtgmhhocpdfdplaaSheetAt
import Derived.Test.YtgmhhocpdfdplaaWin2
namespace Go.Proofs.Ytgmhhocpdfdplaa
open Go.RowKit
set_option maxRecDepth 100000
set_option maxHeartbeats 8000000
namespace Pl
theorem blk_set_self {bs : List (List Int)} {k : Nat} (h : k < bs.length) (b : List Int) : blk (bs.set k b) k = b := by
  unfold blk
  rw [List.getD_eq_getElem?_getD, List.getElem?_set_self h]
  rfl
theorem blk_set_ne {bs : List (List Int)} {k i : Nat} (h : i ≠ k) (b : List Int) : blk (bs.set k b) i = blk bs i := by
  unfold blk
  rw [List.getD_eq_getElem?_getD, List.getElem?_set_ne (Ne.symm h), ← List.getD_eq_getElem?_getD]
/-- L is bs, with x wherever S. -/
structure Painted (bs L : List (List Int)) (S : Nat → Prop) (x : List Int) : Prop where
  len : L.length = bs.length
  h64 : Right64 L
  yes : ∀ i, i < bs.length → S i → blk L i = x
  no : ∀ i, i < bs.length → ¬ S i → blk L i = blk bs i
theorem Painted.start {bs : List (List Int)} (h : Right64 bs) {S : Nat → Prop} (hS : ∀ i, ¬ S i) (x : List Int) : Painted bs bs S x := ⟨rfl, h, fun i _ hi => absurd hi (hS i), fun _ _ _ => rfl⟩
theorem Painted.step {bs L : List (List Int)} {S S' : Nat → Prop} {x : List Int} (h : Painted bs L S x) (hx : x.length = 64) (k : Nat) (hk : k < bs.length) (hS : ∀ i, S' i ↔ S i ∨ i = k) : Painted bs (L.set k x) S' x := by
  refine ⟨by rw [List.length_set]; exact h.len, fun v hv => by rcases List.mem_or_eq_of_mem_set hv with hv | rfl; exact h.h64 v hv; exact hx, fun i hi hSi => ?_, fun i hi hSi => ?_⟩
  · by_cases e : i = k
    · rw [e]; exact blk_set_self (by rw [h.len]; exact hk) x
    · rw [blk_set_ne e]; exact h.yes i hi (((hS i).1 hSi).resolve_right e)
  · have h1 : ¬ S i ∧ i ≠ k := ⟨fun hs => hSi ((hS i).2 (.inl hs)), fun hs => hSi ((hS i).2 (.inr hs))⟩
    rw [blk_set_ne h1.2]; exact h.no i hi h1.1
theorem Painted.iff {bs L : List (List Int)} {S S' : Nat → Prop} {x : List Int} (h : Painted bs L S x) (hS : ∀ i, S' i ↔ S i) : Painted bs L S' x :=
  ⟨h.len, h.h64, fun i hi hs => h.yes i hi ((hS i).1 hs), fun i hi hs => h.no i hi (fun h => hs ((hS i).2 h))⟩
/-- Is a place in a rectangle? -/
def inR (a b h d row col : Nat) : Prop := a ≤ row ∧ row < a + h ∧ b ≤ col ∧ col < b + d
instance (a b h d row col : Nat) : Decidable (inR a b h d row col) := by unfold inR; infer_instance
/-- What is painted after k rows, and t blocks of the next one. -/
def did (c a b d k t : Nat) (i : Nat) : Prop := (a ≤ i / c ∧ i / c < a + k ∧ b ≤ i % c ∧ i % c < b + d) ∨ (i / c = a + k ∧ b ≤ i % c ∧ i % c < b + t)
theorem did_zero (c a b d i : Nat) : ¬ did c a b d 0 0 i := by unfold did; omega
theorem did_row (c a b d k i : Nat) : did c a b d (k + 1) 0 i ↔ did c a b d k d i := by unfold did; omega
theorem did_end (c a b h d i : Nat) : inR a b h d (i / c) (i % c) ↔ did c a b d h 0 i := by unfold did inR; omega
theorem did_step (c a b d k t i z : Nat) (hz : (a + k) * c = z) (ht : t < d) (hb : b + d ≤ c) : did c a b d k (t + 1) i ↔ did c a b d k t i ∨ i = z + b + t := by
  have hc : 0 < c := by omega
  have e : i = z + b + t ↔ i / c = a + k ∧ i % c = b + t := by
    constructor
    · rintro rfl
      rw [← hz, Nat.add_assoc, Nat.add_comm, Nat.add_mul_div_right _ _ hc, Nat.add_mul_mod_self_right, Nat.div_eq_of_lt (by omega), Nat.mod_eq_of_lt (by omega)]
      omega
    · rintro ⟨h1, h2⟩
      have h3 := Nat.div_add_mod i c
      rw [h1, h2, Nat.mul_comm, hz] at h3
      omega
  rw [e]
  unfold did
  omega
end Pl
theorem plane_paint_no (c r : Int) (n : Nat) (bu : Option Addr) (cap : Nat) (a b h d : Int) (x : List Int) (e0 : Int) (he : e0 ≠ 0) (w : World)
    (hw : ∀ W, Calls Try.prog 131 #[.agg #[.int .i64 c, .int .i64 r, .slice bu n cap], .agg #[.int .i64 a, .int .i64 b, .int .i64 h, .int .i64 d]] W fun e w' => e = .returned (.int .i64 e0) ∧ Below W.heap.size W w') :
    Calls Try.prog 91 #[.agg #[.int .i64 c, .int .i64 r, .slice bu n cap], .agg #[.int .i64 a, .int .i64 b, .int .i64 h, .int .i64 d], .agg (ints .i16 x)] w fun e w' => e = .returned (.tuple #[.agg #[.int .i64 0, .int .i64 0, .slice none 0 0], .int .i64 e0]) ∧ Below w.heap.size w w' := by
  obtain ⟨N, hN⟩ : ∃ N, N = w.heap.size := ⟨_, rfl⟩
  have HN := Lib.hid hN
  rw [← hN]
  clear hN
  go_enter Try.func91, Try.ntmps91
  go_upto_region 1 with fail
  refine wp_world (fun W => Blk W N #[.int .i64 c, .int .i64 r, .slice bu n cap] 61 ∧ Blk W (N + 1) #[.int .i64 a, .int .i64 b, .int .i64 h, .int .i64 d] 70 ∧ Blk W (N + 3) #[.int .i64 0, .int .i64 0, .slice none 0 0] 61 ∧ Below N w W)
    ⟨(((Blk.new' _ _ _ HN.out).alloc _).alloc _).alloc _, ((Blk.new' _ _ _ (by simp [HN.out])).alloc _).alloc _, Blk.new' _ _ _ (by simp [HN.out]), ((((Below.refl _ _).alloc (by rw [HN.out]; exact Nat.le_refl _) _).alloc (by rw [HN.out]; simp) _).alloc (by rw [HN.out]; simp; omega) _).alloc (by rw [HN.out]; simp; omega) _⟩ ?_
  rintro W0 ⟨b0, b1, b2, hB⟩
  rw [← HN.out]
  have hw0 := hw W0
  have te : (e0 == 0) = false := by simpa using he
  have te2 : decide (e0 = 0) = false := by simpa using he
  have hN0 := b0.lt
  go_wp2_with (first
    | (refine wpList_load_row rfl 61 _ rfl N rfl 61 _ _ _ b0 Try.underlying61 rfl (by kernel_rfl) ?_)
    | (refine wpList_load_row rfl 70 _ rfl (N + 1) rfl 70 _ _ _ b1 Try.underlying70 rfl (by kernel_rfl) ?_)
    | (go_at_call 131; refine hw0.mono ?_; rintro e w1 ⟨rfl, hb⟩; have b21 := b2.below hb b2.lt; have hB1 := hB.trans (hb.mono (by omega)))
    | (refine wpList_store_row rfl 61 _ _ rfl (N+3) _ rfl rfl 61 _ b21 (by kernel_rfl) rfl (by simp [Value.oneCell']) ?_))
  refine bodyPost_ret (results_row_tmp rfl _ _ (N + 3) 61 _ _ rfl (b21.row _) Try.underlying61 rfl (by kernel_rfl)) rfl ?_
  exact ⟨rfl, Below.setRow hB1 (by omega) _⟩
namespace Pl
/-- What Paint's rounds keep. -/
structure PB (N : Nat) (c r n a b h d : Nat) (x : List Int) (g cv : Nat) (w : World) (L : List (List Int)) (W : World) : Prop where
  bP : Blk W N #[.int .i64 c, .int .i64 r, .slice (some ⟨g, 0, none⟩) n cv] 61
  bR : Blk W (N + 1) #[.int .i64 a, .int .i64 b, .int .i64 h, .int .i64 d] 70
  bX : Blk W (N + 2) (ints .i16 x) 57
  bO : Blk W (N + 3) #[.int .i64 0, .int .i64 0, .slice none 0 0] 61
  row : Row W (N + 4) 57 64 (.slice (some ⟨g, 0, none⟩) n cv) n (bcells L)
  hB : Below N w W
theorem PB.lt {N : Nat} {c r n a b h d : Nat} {x : List Int} {g cv : Nat} {w : World} {L : List (List Int)} {W : World} (q : PB N c r n a b h d x g cv w L W) : N + 4 ≤ g ∧ g < W.heap.size := q.row.lt g rfl
theorem PB.put {N : Nat} {c r n a b h d : Nat} {x : List Int} {g cv : Nat} {w : World} {L : List (List Int)} {W : World} (q : PB N c r n a b h d x g cv w L W) (h64 : Right64 L) (hn : L.length = n) (hx : x.length = 64) (k : Nat) (hk : k < n) : PB N c r n a b h d x g cv w (L.set k x) (W.setCells g (k * 64) (x.map (Value.int .i16))) := by
  obtain ⟨g1, g2, g3, g4⟩ := setCells_chg g (x.map (Value.int .i16)) (k * 64) W
  have hg := q.lt
  exact ⟨(g4 N (by omega)).trans q.bP, (g4 _ (by omega)).trans q.bR, (g4 _ (by omega)).trans q.bX, (g4 _ (by omega)).trans q.bO, q.row.put h64 hn k hk x hx, q.hB.trans ⟨g1, g2, g3, by rw [setCells_size]; exact Nat.le_refl _, fun j hj => g4 j (by omega)⟩⟩
end Pl
theorem Row.there {w : World} {lo : Nat} {e : TypeId} {n g cap : Nat} {xs : List Value} (h : Row w lo e 64 (.slice (some ⟨g, 0, none⟩) n cap) n xs) (k : Nat) (hk : k < n) (m : Nat) (hm : m = 64) : World.there w g (k * 64) m := by
  rcases h.2 with ⟨h0, _⟩ | ⟨g', cap', cur, h0, h2, h3, h4, h5, h6, h7⟩
  · cases h0
  · cases h0
    intro j hj
    rw [hm] at hj
    have hlt : k * 64 + j < cur.size := by
      have h1 : k * 64 + 64 ≤ n * 64 := by omega
      have h2 : n * 64 ≤ cap * 64 := Nat.mul_le_mul_right _ h4
      omega
    exact ⟨by rw [h3.cell, Array.getElem?_eq_getElem hlt]; rfl, h3.free _⟩
theorem plane_paint (c r a b h d : Nat) (u : Value) (bs : List (List Int)) (x : List Int) (h64 : Right64 bs) (hx : x.length = 64) (hn : bs.length = c * r) (hr : Pl.right c r bs.length = true) (h1 : a + h ≤ r) (h2 : b + d ≤ c) (hd : 1 ≤ d) (hh : 1 ≤ h) (w : World) (hA : Ar w 64 u bs.length (bcells bs)) :
    Calls Try.prog 91 #[.agg #[.int .i64 c, .int .i64 r, u], .agg #[.int .i64 a, .int .i64 b, .int .i64 h, .int .i64 d], .agg (ints .i16 x)] w fun e w' =>
      ∃ v L, e = .returned (.tuple #[.agg #[.int .i64 c, .int .i64 r, v], .int .i64 0]) ∧ Pl.Painted bs L (fun i => Pl.inR a b h d (i / c) (i % c)) x ∧ Row w' w.heap.size 57 64 v bs.length (bcells L) ∧ Below w.heap.size w w' := by
  obtain ⟨bu, cap, rfl, -, -⟩ := hA.len
  have hsz : 1 ≤ c ∧ 1 ≤ r ∧ c ≤ 16384 ∧ r ≤ 16384 ∧ c * r ≤ 16384 := by
    unfold Pl.right at hr
    simp only [Bool.and_eq_true, beq_iff_eq] at hr
    obtain ⟨h1, h2, h3, h4, _, h6⟩ := Pl.sized_ok hr.1
    exact ⟨by omega, by omega, by omega, by omega, by exact_mod_cast h6⟩
  have hno : ¬ Pl.out c r a b h d := by unfold Pl.out; omega
  have hbl : bs.length ≤ 16384 := by rw [hn]; exact hsz.2.2.2.2
  have hfit : ∀ i, i < h → (a + i) * c + b + d ≤ bs.length := fun i hi => Pl.row_fits hn h1 h2 hi
  have hpos : 0 < bs.length := by have := hfit 0 (by omega); omega
  clear hn
  obtain ⟨N, hN⟩ : ∃ N, N = w.heap.size := ⟨_, rfl⟩
  have HN := Lib.hid hN
  rw [← hN]
  clear hN
  go_enter Try.func91, Try.ntmps91
  go_upto_region 1 with fail
  refine wp_world (fun W => Blk W N #[.int .i64 c, .int .i64 r, .slice bu bs.length cap] 61 ∧ Blk W (N + 1) #[.int .i64 a, .int .i64 b, .int .i64 h, .int .i64 d] 70 ∧ Blk W (N + 2) (ints .i16 x) 57 ∧ Blk W (N + 3) #[.int .i64 0, .int .i64 0, .slice none 0 0] 61 ∧ Below N w W)
    ⟨(((Blk.new' _ _ _ HN.out).alloc _).alloc _).alloc _, ((Blk.new' _ _ _ (by simp [HN.out])).alloc _).alloc _, (Blk.new' _ _ _ (by simp [HN.out])).alloc _, Blk.new' _ _ _ (by simp [HN.out]), ((((Below.refl _ _).alloc (by rw [HN.out]; exact Nat.le_refl _) _).alloc (by rw [HN.out]; simp) _).alloc (by rw [HN.out]; simp; omega) _).alloc (by rw [HN.out]; simp; omega) _⟩ ?_
  rintro W0 ⟨b0, b1, b2, b3, hB⟩
  rw [← HN.out]
  have hw0 := plane_within c r bs.length bu cap a b h d hr W0
  have hN0 := b0.lt
  go_upto_region 4 with (first
    | (refine wpList_load_row rfl 61 _ rfl N rfl 61 _ _ _ b0 Try.underlying61 rfl (by kernel_rfl) ?_)
    | (refine wpList_load_row rfl 70 _ rfl (N + 1) rfl 70 _ _ _ b1 Try.underlying70 rfl (by kernel_rfl) ?_)
    | (go_at_call 131; refine hw0.mono ?_; rintro e w1 ⟨_, he, hb⟩; obtain rfl := he hno; have b01 := b0.below hb b0.lt; have b11 := b1.below hb b1.lt; have b21 := b2.below hb b2.lt; have b31 := b3.below hb b3.lt; have hB1 := hB.trans (hb.mono (by omega))))
  have hcl := blocks_clone _ _ _ (by omega) w1 (hA.below (by rw [← HN.out]; exact hB1)) (bcells_one _)
  have q2 := b01.cell 2
  have hN1 := b31.lt
  go_upto_region 5 with (go_at_call 83; refine hcl.mono ?_; rintro e w2 ⟨v, rfl, hR, hb2⟩; obtain ⟨g, cv, rfl, -, -, -⟩ := hR.cells hpos; have b02 := b01.below hb2 b01.lt; have q3 := b02.cell 2; have f3 := b02.free 2)
  refine wp_world (fun W => Pl.PB N c r bs.length a b h d x g cv w bs W) ?_ ?_
  · have hg := (hR.lt g rfl).1
    exact ⟨b02.set 2 _, (b11.below hb2 b11.lt).other _ _ (by show N + 1 ≠ N; omega), (b21.below hb2 b21.lt).other _ _ (by show N + 2 ≠ N; omega), (b31.below hb2 b31.lt).other _ _ (by show N + 3 ≠ N; omega), (hR.down (by omega)).other _ _ (fun k hk => by cases hk; show g ≠ N; omega), (hB1.trans (hb2.mono (by omega))).setCell (p := ⟨N, 2, none⟩) (Nat.le_refl _) _⟩
  clear b0 b1 b2 b3 hB hb b01 b11 b21 b31 hB1 hw0 hN0 hcl q2 q3 f3 hR hb2 b02 hN1
  rintro W1 hP
  have hp0 : Pl.Painted bs bs (Pl.did c a b d 0 0) x := Pl.Painted.start h64 (Pl.did_zero c a b d) x
  have q2 := hP.bR.cell 2
  go_wp2_with fail
  go_loopw [24] (fun i wr => ∃ (k : Nat) (L : List (List Int)), k ≤ h ∧ i = .int .i64 k ∧ Pl.Painted bs L (Pl.did c a b d k 0) x ∧ Pl.PB N c r bs.length a b h d x g cv w L wr) (fun i _ => h - (intOf i).toNat)
  case atStart => exact ⟨0, bs, Nat.zero_le _, rfl, hp0, hP⟩
  case round =>
    clear hP q2 hp0
    obtain ⟨k, L, hk, rfl, hp, hP⟩ := hrel
    by_cases hlt : k < h
    · have tk : decide (k < h) = true := by simpa using hlt
      have hf := hfit k hlt
      obtain ⟨z, hz⟩ : ∃ z : Nat, (a + k) * c = z := ⟨_, rfl⟩
      rw [hz] at hf
      have hst := fun t i => Pl.did_step c a b d k t i z hz
      have hrw := fun i => Pl.did_row c a b d k i
      have q3 := hP.bR.cell 3
      have hzi : ((a : Int) + (k : Int)) * (c : Int) = (z : Int) := by rw [← hz]; push_cast; rfl
      clear hz
      have hz0 : -9223372036854775808 ≤ (z : Int) ∧ (z : Int) ≤ 9223372036854775807 := by clear hzi; omega
      have hzw : Value.int .i64 (wrap64 (((a : Int) + (k : Int)) * (c : Int))) = .int .i64 (z : Int) := by rw [hzi, IntWalk.wrap64_in _ hz0]
      clear hzi hz0
      go_upto_region 9 with fail
      go_loopw [29] (fun i wr => ∃ (t : Nat) (L : List (List Int)), t ≤ d ∧ i = .int .i64 t ∧ Pl.Painted bs L (Pl.did c a b d k t) x ∧ Pl.PB N c r bs.length a b h d x g cv w L wr) (fun i _ => d - (intOf i).toNat)
      case atStart => exact ⟨0, L, Nat.zero_le _, rfl, hp, hP⟩
      case round =>
        clear hP hp q3
        obtain ⟨t, L, ht, rfl, hp, hP⟩ := hrel
        by_cases htl : t < d
        · have tt : decide (t < d) = true := by simpa using htl
          have x0 := hP.bP.cell 0
          have x2 := hP.bP.cell 2
          have y0 := hP.bR.cell 0
          have y1 := hP.bR.cell 1
          have u0 : (0 : Int) ≤ (z : Int) + (b : Int) + (t : Int) := by clear hzw; omega
          have u1 : (z : Int) + (b : Int) + (t : Int) < (bs.length : Int) := by clear hzw; omega
          have u2 : ((z : Int) + (b : Int) + (t : Int)).toNat = z + b + t := by clear hzw; omega
          have hth := hP.row.there (z + b + t) (by clear hzw; omega) (ints .i16 x).size (by rw [ints_size, hx])
          go_upto_region 12 with (first
            | (refine wpList_load_row rfl 57 _ rfl (N + 2) rfl 57 _ _ _ hP.bX Try.underlying57 rfl (by rw [ints_size, hx]; kernel_rfl) ?_)
            | (refine wpList_store_mid rfl 57 _ _ rfl g ((z + b + t) * 64) (ints .i16 x) rfl rfl hth (by rw [ints_size, hx]; kernel_rfl) (ints_one _ _) ?_))
          have hPn := hP.put hp.h64 hp.len hx (z + b + t) (by clear hzw; omega)
          have hvs : (ints .i16 x).toList = x.map (Value.int .i16) := by simp [ints]
          rw [hvs]
          go_wp2_with fail
          exact ⟨⟨t + 1, L.set (z + b + t) x, by omega, by go_num, hp.step hx _ (by clear hzw; omega) (fun i => hst t i htl h2), hPn⟩, by simp [intOf]; omega⟩
        · have tt : decide (t < d) = false := by simpa using htl
          obtain rfl : t = d := by omega
          go_wp2_with fail
          exact ⟨⟨k + 1, L, by omega, by go_num, hp.iff hrw, hP⟩, by simp [intOf]; omega⟩
    · have tk : decide (k < h) = false := by simpa using hlt
      obtain rfl : k = h := by omega
      go_wp2_with (first
        | (refine wpList_load_row rfl 61 _ rfl N rfl 61 _ _ _ hP.bP Try.underlying61 rfl (by kernel_rfl) ?_)
        | (refine wpList_store_row rfl 61 _ _ rfl (N+3) _ rfl rfl 61 _ hP.bO (by kernel_rfl) rfl (by simp [Value.oneCell']) ?_))
      refine bodyPost_ret (results_row_tmp rfl _ _ (N + 3) 61 _ _ rfl (hP.bO.row _) Try.underlying61 rfl (by kernel_rfl)) rfl ?_
      exact ⟨_, L, rfl, hp.iff (Pl.did_end c a b k d), Row.down (Row.same (w := wr) hP.row (fun g' hg => setRow_other _ _ _ _ (by have := (hP.row.lt g' hg).1; omega))) (by omega), Below.setRow hP.hB (by omega) _⟩
end Go.Proofs.Ytgmhhocpdfdplaa
