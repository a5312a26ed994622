/- Package cut: what is done to planes: windows, and noughts. -/
import Derived.Test.YtgmhhocpdfdplaaCutP
namespace Go.Proofs.Ytgmhhocpdfdplaa
open Go.RowKit
set_option maxRecDepth 100000
set_option maxHeartbeats 4000000
def zero64 : List Int := List.replicate 64 0
def cropG (x : ImgArg) (X Y W H : Int) (i : Nat) : PlaneV :=
  ⟨upI W (uwI x) * pH x i, upI H (uhI x) * pV x i, Pl.win (x.cs.getD i noComp).bs (x.cs.getD i noComp).c.toNat (unA x Y * pV x i).toNat (unB x X * pH x i).toNat (upI W (uwI x) * pH x i).toNat (upI H (uhI x) * pV x i).toNat⟩
def redG (x : ImgArg) (X Y W H : Int) (i : Nat) : PlaneV :=
  ⟨(x.cs.getD i noComp).c, (x.cs.getD i noComp).r, Pl.pnt (x.cs.getD i noComp).bs (Pl.insI (unA x Y * pV x i).toNat (unB x X * pH x i).toNat (upI H (uhI x) * pV x i).toNat (upI W (uwI x) * pH x i).toNat (x.cs.getD i noComp).c.toNat) zero64 (x.cs.getD i noComp).bs.length⟩
theorem win_mem {bs : List (List Int)} {c a b d k : Nat} {y : List Int} (h : y ∈ Pl.win bs c a b d k) : y ∈ bs := by
  simp only [Pl.win, List.mem_flatMap] at h
  obtain ⟨i, _, hx⟩ := h
  exact List.mem_of_mem_drop (List.mem_of_mem_take hx)
theorem wf_small {z : Int} (h0 : 0 ≤ z) (h1 : z ≤ 20000) : (Lit.int .i64 z).wf = true := wf64 z (by omega) (by omega)
theorem cropG_ok {x : ImgArg} {X Y W H : Int} (q : UnOk x X Y W H) (hx : ∀ c ∈ x.cs, Right64 c.bs ∧ ∀ b ∈ c.bs, ∀ y ∈ b, (Lit.int .i16 y).wf = true) (i : Nat) (hi : i < x.cs.length) : PlOk (cropG x X Y W H i) := by
  obtain ⟨c, r, a, b, h, d, n⟩ := q.nats hi
  obtain ⟨h64, hwb⟩ := hx _ (List.getElem_mem hi)
  unfold cropG
  rw [comp_getD hi, n.ec, n.ea, n.eb, n.eh, n.ed]
  simp only [Int.toNat_natCast]
  have hd : d ≤ c := by have := n.bd; omega
  have hh : h ≤ r := by have := n.ah; omega
  have hl := Pl.win_len (c := c) (r := r) (a := a) (b := b) (h := h) (d := d) n.n n.ah n.bd h (Nat.le_refl _)
  refine ⟨wf_small (by show (0 : Int) ≤ (d : Int); omega) (by have := n.c1; show (d : Int) ≤ _; omega), wf_small (by show (0 : Int) ≤ (h : Int); omega) (by have := n.r1; show (h : Int) ≤ _; omega), Pl.win_right h64 _ _ _ _ _, fun y hy => hwb y (win_mem hy), ?_⟩
  show (Pl.win _ c a b d h).length ≤ 20000
  rw [hl]
  have h1 : h * d ≤ r * c := Nat.mul_le_mul hh hd
  have h2 : r * c = c * r := Nat.mul_comm _ _
  have h3 := n.cr
  omega
theorem redG_ok {x : ImgArg} {X Y W H : Int} (q : UnOk x X Y W H) (hx : ∀ c ∈ x.cs, Right64 c.bs ∧ ∀ b ∈ c.bs, ∀ y ∈ b, (Lit.int .i16 y).wf = true) (i : Nat) (hi : i < x.cs.length) : PlOk (redG x X Y W H i) := by
  obtain ⟨c, r, a, b, h, d, n⟩ := q.nats hi
  obtain ⟨h64, hwb⟩ := hx _ (List.getElem_mem hi)
  unfold redG
  rw [comp_getD hi, n.ec, n.er, n.ea, n.eb, n.eh, n.ed]
  simp only [Int.toNat_natCast]
  refine ⟨wf_small (by show (0 : Int) ≤ (c : Int); omega) (by have := n.c1; show (c : Int) ≤ _; omega), wf_small (by show (0 : Int) ≤ (r : Int); omega) (by have := n.r1; show (r : Int) ≤ _; omega), Pl.pnt_right h64 _ (by simp [zero64]) _, fun y hy z hz => ?_, ?_⟩
  · simp only [Pl.pnt, List.mem_map, List.mem_range] at hy
    obtain ⟨j, hj, rfl⟩ := hy
    split at hz
    · rw [List.eq_of_mem_replicate hz]; decide
    · refine hwb _ ?_ z hz
      rw [← Pl.blk_eq hj]
      exact List.getElem_mem hj
  · show (Pl.pnt _ _ _ _).length ≤ 20000
    rw [Pl.pnt_len, n.n]
    have h3 := n.cr
    omega
theorem crop_do {x : ImgArg} {X Y W H : Int} (q : UnOk x X Y W H) (hx : ∀ c ∈ x.cs, Right64 c.bs) (i : Nat) (hi : i < x.cs.length) (u : Value) (V : World) (hA : Ar V 64 u (x.cs[i]'hi).bs.length (bcells (x.cs[i]'hi).bs)) :
    Calls Try.prog 88 #[.agg #[.int .i64 (x.cs[i]'hi).c, .int .i64 (x.cs[i]'hi).r, u], .agg #[.int .i64 (unA x Y * pV x i), .int .i64 (unB x X * pH x i), .int .i64 (upI H (uhI x) * pV x i), .int .i64 (upI W (uwI x) * pH x i)]] V
      fun e w' => ∃ v, e = .returned (.tuple #[.agg #[.int .i64 (cropG x X Y W H i).c, .int .i64 (cropG x X Y W H i).r, v], .int .i64 0]) ∧ Row w' V.heap.size 57 64 v (cropG x X Y W H i).l.length (bcells (cropG x X Y W H i).l) ∧ Below V.heap.size V w' := by
  obtain ⟨c, r, a, b, h, d, n⟩ := q.nats hi
  have h64 := hx _ (List.getElem_mem hi)
  unfold cropG
  rw [comp_getD hi, n.ec, n.er, n.ea, n.eb, n.eh, n.ed]
  simp only [Int.toNat_natCast]
  have hl := Pl.win_len (c := c) (r := r) (a := a) (b := b) (h := h) (d := d) n.n n.ah n.bd h (Nat.le_refl _)
  rw [hl]
  exact plane_window c r a b h d u _ h64 n.n n.rt n.ah n.bd n.d1 n.h1 V hA
theorem red_do1 (c r a b h d : Nat) (u : Value) (bs : List (List Int)) (h64 : Right64 bs) (hn : bs.length = c * r) (hr : Pl.right c r bs.length = true) (h1 : a + h ≤ r) (h2 : b + d ≤ c) (hd : 1 ≤ d) (hh : 1 ≤ h) (w : World) (hA : Ar w 64 u bs.length (bcells bs)) :
    Calls Try.prog 90 #[.agg #[.int .i64 c, .int .i64 r, u], .agg #[.int .i64 a, .int .i64 b, .int .i64 h, .int .i64 d]] w
      fun e w' => ∃ v, e = .returned (.tuple #[.agg #[.int .i64 c, .int .i64 r, v], .int .i64 0]) ∧ Row w' w.heap.size 57 64 v bs.length (bcells (Pl.pnt bs (Pl.insI a b h d c) zero64 bs.length)) ∧ Below w.heap.size w w' := by
  obtain ⟨bu, cap, rfl, -, -⟩ := hA.len
  obtain ⟨N, hN⟩ : ∃ N, N = w.heap.size := ⟨_, rfl⟩
  have HN := Lib.hid hN
  rw [← hN]
  have hpn := fun W hA => plane_paint c r a b h d (.slice bu bs.length cap) bs zero64 h64 (by simp [zero64]) hn hr h1 h2 hd hh W hA
  have HPN := Lib.hid hpn
  have hbe : Below w.heap.size w (((w.alloc (.cells #[.int .i64 c, .int .i64 r, .slice bu bs.length cap] 61)).alloc (.cells #[.int .i64 a, .int .i64 b, .int .i64 h, .int .i64 d] 70)).alloc (.cells #[.int .i64 0, .int .i64 0, .slice none 0 0] 61)) := (((Below.refl _ _).alloc (Nat.le_refl _) _).alloc (by simp) _).alloc (by simp; omega) _
  obtain ⟨n, hbn⟩ : ∃ n, bs.length = n := ⟨_, rfl⟩
  have HBN := Lib.hid hbn
  rw [hbn] at hA ⊢
  clear hpn hN hn hr hbn
  go_enter Try.func90, Try.ntmps90
  go_upto_region 1 with fail
  rw [← HN.out]
  refine wp_world (fun V => (Blk V N #[.int .i64 c, .int .i64 r, .slice bu n cap] 61 ∧ Blk V (N + 1) #[.int .i64 a, .int .i64 b, .int .i64 h, .int .i64 d] 70 ∧ Blk V (N + 2) #[.int .i64 0, .int .i64 0, .slice none 0 0] 61) ∧ Ar V 64 (.slice bu n cap) n (bcells bs) ∧ Below N w V)
    ⟨⟨((Blk.new' _ _ _ HN.out).alloc _).alloc _, (Blk.new' _ _ _ (by simp [HN.out])).alloc _, Blk.new' _ _ _ (by simp [HN.out])⟩, ?_, ?_⟩ ?_
  · rw [HBN.out] at hbe; exact hA.below hbe
  · rw [HN.out]; rw [HBN.out] at hbe; exact hbe
  clear hbe hA
  rintro V ⟨⟨b0, b1, b2⟩, hA, hB⟩
  have hpn := HPN.out V (by rw [HBN.out]; exact hA)
  rw [HBN.out] at hpn
  have hNl := b0.lt
  unfold zero64 at hpn
  go_wp2_with (first
    | (refine wpList_load_row rfl 61 _ rfl N rfl 61 _ _ _ b0 Try.underlying61 rfl (by kernel_rfl) ?_)
    | (refine wpList_load_row rfl 70 _ rfl (N + 1) rfl 70 _ _ _ b1 Try.underlying70 rfl (by kernel_rfl) ?_)
    | (refine Great.wpList_runTo rfl _ rfl _ _ (run_exec_build 57 _ rfl (ints .i16 (List.replicate 64 0)) (by kernel_rfl)) ?_; simp only [Act.put, List.setIfInBounds_toArray, List.set_cons_zero, List.set_cons_succ])
    | (go_at_call 91; refine hpn.mono ?_; rintro e w1 ⟨v, L, rfl, hp, hRw, hb1⟩; obtain ⟨bv, cv, rfl⟩ := hRw.len; have b3 := b2.below hb1 b2.lt)
    | (refine wpList_store_row rfl 61 _ _ rfl (N + 2) _ rfl rfl 61 _ b3 (by kernel_rfl) rfl (by simp [Value.oneCell']) ?_))
  refine bodyPost_ret (results_row_tmp rfl _ _ (N + 2) 61 _ _ rfl (b3.row _) Try.underlying61 rfl (by kernel_rfl)) rfl ?_
  have hL := hp.eq (Pl.insI a b h d c) (Pl.insI_iff a b h d c)
  rw [HBN.out] at hL
  subst hL
  have hB2 := hB.trans (hb1.mono (Nat.le_of_lt hNl))
  exact ⟨_, rfl, (hRw.down (Nat.le_of_lt hNl)).same fun g e => setRow_other _ _ _ _ (hRw.typed b3 (by decide) g e), Below.setRow hB2 (by omega) _⟩
theorem red_do {x : ImgArg} {X Y W H : Int} (q : UnOk x X Y W H) (hx : ∀ c ∈ x.cs, Right64 c.bs) (i : Nat) (hi : i < x.cs.length) (u : Value) (V : World) (hA : Ar V 64 u (x.cs[i]'hi).bs.length (bcells (x.cs[i]'hi).bs)) :
    Calls Try.prog 90 #[.agg #[.int .i64 (x.cs[i]'hi).c, .int .i64 (x.cs[i]'hi).r, u], .agg #[.int .i64 (unA x Y * pV x i), .int .i64 (unB x X * pH x i), .int .i64 (upI H (uhI x) * pV x i), .int .i64 (upI W (uwI x) * pH x i)]] V
      fun e w' => ∃ v, e = .returned (.tuple #[.agg #[.int .i64 (redG x X Y W H i).c, .int .i64 (redG x X Y W H i).r, v], .int .i64 0]) ∧ Row w' V.heap.size 57 64 v (redG x X Y W H i).l.length (bcells (redG x X Y W H i).l) ∧ Below V.heap.size V w' := by
  obtain ⟨c, r, a, b, h, d, n⟩ := q.nats hi
  have h64 := hx _ (List.getElem_mem hi)
  unfold redG
  rw [comp_getD hi, n.ec, n.er, n.ea, n.eb, n.eh, n.ed]
  simp only [Int.toNat_natCast]
  rw [Pl.pnt_len]
  exact red_do1 c r a b h d u _ h64 n.n n.rt n.ah n.bd n.d1 n.h1 V hA
end Go.Proofs.Ytgmhhocpdfdplaa
