/- Texts on one foundation, joined: FlipA, FlipB, FlipC, RowMid, FlipD, FlipP, FlipE, Aw18. -/
import Derived.Test.YtgmhhocpdfdplaaGreatGN
import Derived.Test.YtgmhhocpdfdplaaGreatGK
import Derived.Test.YtgmhhocpdfdplaaGreatGJ
import Derived.Test.YtgmhhocpdfdplaaGreatGM
import Derived.Test.YtgmhhocpdfdplaaGreatGG
/- Package flip: May. -/
namespace Go.Proofs.YtgmhhocpdfdplaaGreat
open Go.RowKit
set_option maxRecDepth 100000
set_option maxHeartbeats 8000000
/-- May's answer. -/
def mayE (x : ImgArg) (k : Int) : Int := if imgE x = 0 then (if 0 ≤ k ∧ k < 8 then (if (Tu.mirA k = true ∧ x.w % uwI x ≠ 0) ∨ (Tu.mirD k = true ∧ x.h % uhI x ≠ 0) then 13 else 0) else 1) else imgE x
theorem flip_may (x : ImgArg) (hf : FewOk x) (k : Int) (w : World) (h : IsImg w x.val x) :
    Calls Tryz.prog 27 #[x.val, .int .i64 k] w fun r w' => r = .returned (.int .i64 (mayE x k)) ∧ Below w.heap.size w w' := by
  obtain ⟨E, hE⟩ : ∃ E, mayE x k = E := ⟨_, rfl⟩
  rw [hE]
  unfold mayE at hE
  have hL := LI.begin h
  obtain ⟨N, hN⟩ : ∃ N, N = w.heap.size := ⟨_, rfl⟩
  rw [← hN] at hL
  have HN := Lib.hid hN
  have hr := fun V h => img_right x V h hf
  have hfr := fun V h => img_frame x V h hf.c20
  obtain ⟨e, he⟩ : ∃ e, imgE x = e := ⟨_, rfl⟩
  have HIE := Lib.hid he
  rw [he] at hr hE
  have HE := Lib.hid hE
  unfold ImgArg.val at *
  clear hN h hE he
  go_enter Tryz.func27, Tryz.ntmps27
  go_upto_region 1 with fail
  refine wp_world (LI N x w) hL ?_
  rw [← HN.out]
  clear hL
  intro V hL
  have hNN := hL.hM
  go_upto_region 2 with (first
    | (refine wpList_load_row rfl 26 _ rfl N rfl 26 _ _ _ hL.bN Tryz.underlying26 rfl (by kernel_rfl) ?_)
    | (go_at_call 26; refine (hr _ hL.img).mono ?_; rintro r w3 ⟨rfl, hb3⟩; replace hL := hL.below hb3))
  clear hr hb3
  by_cases h0 : e = 0
  case neg =>
    have t1 : (e != 0) = true := by simpa using h0
    obtain rfl : E = e := by rw [← HE.out]; exact if_neg h0
    clear HE HIE h0 hfr
    go_wp2
    go_ret
    exact ⟨rfl, hL.hB⟩
  subst h0
  have hE := HE.out
  rw [if_pos rfl] at hE
  clear HE
  by_cases hk : 0 ≤ k ∧ k < 8
  case neg =>
    obtain rfl : E = 1 := by rw [← hE]; exact if_neg hk
    have htr := fun V => right_no k (by omega) V
    clear hE HIE hfr hk
    go_wp2_with (go_at_call 49; refine (htr _).mono ?_; rintro r w4 ⟨rfl, rfl⟩)
    go_ret
    exact ⟨rfl, hL.hB⟩
  rw [if_pos hk] at hE
  have htr := fun V => right_yes k hk.1 hk.2 V
  have hmi := fun V => mirrors_yes k hk.1 hk.2 V
  have hR := right_of_imgE HIE.out
  obtain ⟨hnw, hnh, hnu, hnv, -⟩ := hR.nums
  have hf0 := hR.fr
  rw [hf0] at hfr
  have HU1 := Lib.hid (show uwI x = 8 * hhN (partsOf (psOf x.cs)) from rfl)
  have HU2 := Lib.hid (show uhI x = 8 * vvN (partsOf (psOf x.cs)) from rfl)
  generalize 8 * hhN (partsOf (psOf x.cs)) = uw at *
  generalize 8 * vvN (partsOf (psOf x.cs)) = uh at *
  rw [HU1.out] at hnu hE
  rw [HU2.out] at hnv hE
  generalize acN x.w (partsOf (psOf x.cs)) = ac at *
  generalize dnN x.h (partsOf (psOf x.cs)) = dn at *
  generalize Tu.mirA k = A at *
  generalize Tu.mirD k = D at *
  have HE := Lib.hid hE
  clear hE HIE hR hf0 hk
  go_upto_region 9 with (first
    | (refine wpList_load_row rfl 26 _ rfl N rfl 26 _ _ _ hL.bN Tryz.underlying26 rfl (by kernel_rfl) ?_)
    | (go_at_call 49; refine (htr _).mono ?_; rintro r w4 ⟨rfl, rfl⟩)
    | (go_at_call 51; refine (hmi _).mono ?_; rintro r w4 ⟨rfl, rfl⟩)
    | (go_at_call 22; refine (hfr _ hL.img).mono ?_; rintro r w4 ⟨f, rfl, hb4, -, hf2⟩; obtain ⟨F, rfl, -, hFU⟩ := hf2 (by first | rfl | trivial); replace hL := hL.below hb4)
    | (go_at_call 50; refine (fr_unit F uw uh ac dn _ hFU).mono ?_; rintro r w5 ⟨rfl, hb5⟩; replace hL := hL.below hb5))
  have n0 := hL.bN.cell 0; have n1 := hL.bN.cell 1
  have hu0 : uw ≠ 0 := by omega
  have hv0 : uh ≠ 0 := by omega
  have hu1 : uw ≠ -1 := by omega
  have hv1 : uh ≠ -1 := by omega
  have t1 : ∃ b, (x.w % uw != 0) = b := ⟨_, rfl⟩
  have t2 : ∃ b, (x.h % uh != 0) = b := ⟨_, rfl⟩
  obtain ⟨b1, t1⟩ := t1
  obtain ⟨b2, t2⟩ := t2
  have hb : E = if (A = true ∧ b1 = true) ∨ (D = true ∧ b2 = true) then 13 else 0 := by
    rw [← HE.out, ← t1, ← t2]
    simp only [bne_iff_ne, ne_eq]
  have HB := Lib.hid hb
  clear hb HE
  cases A <;> cases D <;> cases b1 <;> cases b2 <;> (
    have hb := HB.out
    simp at hb
    subst hb
    clear HB
    go_wp2
    go_ret
    exact ⟨rfl, hL.hB⟩)
end Go.Proofs.YtgmhhocpdfdplaaGreat
/- Package flip: the closure that says whence a block comes. -/
namespace Go.Proofs.YtgmhhocpdfdplaaGreat
open Go.RowKit
set_option maxRecDepth 100000
set_option maxHeartbeats 8000000
theorem flip_from (K P : Nat) (k a b r c : Int) (u : Value) (h0 : 0 ≤ k) (h1 : k < 8) (ha : 0 ≤ a) (ha' : a ≤ 1000000) (hb : 0 ≤ b) (hb' : b ≤ 1000000) (hr : 0 ≤ r) (hr' : r ≤ 1000000) (hc : 0 ≤ c) (hc' : c ≤ 1000000) (w : World) (bK : Blk w K #[.int .i64 k] 3) (bP : Blk w P #[.int .i64 a, .int .i64 b, u] 46) :
    Calls Tryz.prog 54 #[.int .i64 r, .int .i64 c, .pointer (some ⟨K, 0, none⟩), .pointer (some ⟨P, 0, none⟩)] w fun e w' => e = .returned (.tuple #[.int .i64 (Tu.from_ k a b r c).1, .int .i64 (Tu.from_ k a b r c).2]) ∧ w = w' := by
  have hf := fun V => from_yes k a b r c h0 h1 ha ha' hb hb' hr hr' hc hc' V
  have k0 := bK.cell 0; have p0 := bP.cell 0; have p1 := bP.cell 1
  generalize Tu.from_ k a b r c = F at *
  go_enter Tryz.func54, Tryz.ntmps54
  go_wp2_with (go_at_call 55; refine (hf _).mono ?_; rintro e w1 ⟨rfl, rfl⟩)
  go_ret2
  exact ⟨rfl, rfl⟩
end Go.Proofs.YtgmhhocpdfdplaaGreat
/- Package flip: a component turned. -/
namespace Go.Proofs.YtgmhhocpdfdplaaGreat
open Go.RowKit
set_option maxRecDepth 100000
set_option maxHeartbeats 8000000
theorem from_in (k w h r c : Int) (h0 : 0 ≤ k) (h8 : k < 8) (hr : 0 ≤ r) (hc : 0 ≤ c) (hr' : r < (Tu.sides k w h).2) (hc' : c < (Tu.sides k w h).1) :
    0 ≤ (Tu.from_ k w h r c).1 ∧ (Tu.from_ k w h r c).1 < h ∧ 0 ≤ (Tu.from_ k w h r c).2 ∧ (Tu.from_ k w h r c).2 < w := by
  unfold Tu.sides at hr' hc'; unfold Tu.from_
  rw [if_pos ⟨h0, h8⟩] at *
  by_cases h4 : 4 ≤ k
  · rw [if_pos h4] at *
    simp only at *
    split <;> split <;> omega
  · rw [if_neg h4] at *
    simp only at *
    split <;> split <;> omega
/-- Whence block j of the turned plane comes. -/
def srcN (k : Int) (cn rn cols j : Nat) : Nat × Nat := ((Tu.from_ k cn rn ((j : Int) / (cols : Int)) ((j : Int) % (cols : Int))).1.toNat, (Tu.from_ k cn rn ((j : Int) / (cols : Int)) ((j : Int) % (cols : Int))).2.toNat)
theorem src_in {k : Int} {cn rn cols rows : Nat} (h0 : 0 ≤ k) (h8 : k < 8) (hsd : Tu.sides k cn rn = ((cols : Int), (rows : Int))) {j : Nat} (hj : j < cols * rows) :
    (srcN k cn rn cols j).1 < rn ∧ (srcN k cn rn cols j).2 < cn ∧ Tu.from_ k cn rn ((j : Int) / (cols : Int)) ((j : Int) % (cols : Int)) = (((srcN k cn rn cols j).1 : Int), ((srcN k cn rn cols j).2 : Int)) := by
  have hc : 0 < cols := Nat.pos_of_ne_zero fun e => by rw [e, Nat.zero_mul] at hj; omega
  have h1 : j / cols < rows := Nat.div_lt_of_lt_mul hj
  have h2 : j % cols < cols := Nat.mod_lt _ hc
  have g1 : (j : Int) / (cols : Int) < (rows : Int) := by rw [← Int.natCast_ediv]; exact_mod_cast h1
  have g2 : (j : Int) % (cols : Int) < (cols : Int) := by rw [← Int.natCast_emod]; exact_mod_cast h2
  have f := from_in k cn rn ((j : Int) / (cols : Int)) ((j : Int) % (cols : Int)) h0 h8 (Int.ediv_nonneg (by omega) (by omega)) (Int.emod_nonneg _ (by omega)) (by rw [hsd]; exact g1) (by rw [hsd]; exact g2)
  unfold srcN
  generalize Tu.from_ k cn rn ((j : Int) / (cols : Int)) ((j : Int) % (cols : Int)) = F at *
  obtain ⟨F1, F2⟩ := F
  simp only at f ⊢
  refine ⟨by omega, by omega, ?_⟩
  rw [Int.toNat_of_nonneg f.1, Int.toNat_of_nonneg f.2.2.1]
/-- The blocks moved, and then turned. -/
def movB (k : Int) (bs : List (List Int)) (cn rn cols n : Nat) : List (List Int) := (List.range n).map fun j => Pl.blk bs ((srcN k cn rn cols j).1 * cn + (srcN k cn rn cols j).2)
def flipB (k : Int) (bs : List (List Int)) (cn rn cols n : Nat) : List (List Int) := (movB k bs cn rn cols n).map (Tu.block k)
theorem movB_len (k : Int) (bs : List (List Int)) (cn rn cols n : Nat) : (movB k bs cn rn cols n).length = n := by simp [movB]
theorem flipB_len (k : Int) (bs : List (List Int)) (cn rn cols n : Nat) : (flipB k bs cn rn cols n).length = n := by simp [flipB, movB]
theorem movB_right (k : Int) {bs : List (List Int)} (h : Right64 bs) (cn rn cols n : Nat) : Right64 (movB k bs cn rn cols n) := by
  intro x hx
  simp only [movB, List.mem_map] at hx
  obtain ⟨j, _, rfl⟩ := hx
  exact Pl.blk_len h _
theorem sized_sides {k : Int} {cn rn cols rows : Nat} (h0 : 0 ≤ k) (h8 : k < 8) (hsd : Tu.sides k cn rn = ((cols : Int), (rows : Int))) (h : Pl.sized cn rn = 0) : Pl.sized cols rows = 0 ∧ cols * rows = cn * rn := by
  obtain ⟨a1, a2, a3, a4, a5, a6⟩ := Pl.sized_ok h
  unfold Tu.sides at hsd
  rw [if_pos ⟨h0, h8⟩] at hsd
  by_cases h4 : 4 ≤ k
  · rw [if_pos h4] at hsd
    simp only [Prod.mk.injEq] at hsd
    obtain rfl : rn = cols := by omega
    obtain rfl : cn = rows := by omega
    refine ⟨?_, Nat.mul_comm _ _⟩
    unfold Pl.sized
    rw [if_neg (by omega), if_neg]
    rintro (h1 | h1)
    · omega
    · have := (Int.ediv_lt_iff_lt_mul (by omega)).1 h1
      omega
  · rw [if_neg h4] at hsd
    simp only [Prod.mk.injEq] at hsd
    obtain rfl : cn = cols := by omega
    obtain rfl : rn = rows := by omega
    exact ⟨h, rfl⟩
theorem sides_hiE {k : Int} (a b : Int) (h4 : 4 ≤ k) (h8 : k < 8) : Tu.sides k a b = (b, a) := by unfold Tu.sides; rw [if_pos ⟨by omega, h8⟩, if_pos h4]
theorem sides_loE {k : Int} (a b : Int) (h0 : 0 ≤ k) (h4 : ¬ 4 ≤ k) : Tu.sides k a b = (a, b) := by unfold Tu.sides; rw [if_pos ⟨h0, by omega⟩, if_neg h4]
/-- A component of right sides, in numbers. -/
structure NatK (k : Int) (c : CompArg) (cn rn cols rows : Nat) : Prop where
  hc : c.c = cn
  hr : c.r = rn
  hsd : Tu.sides k cn rn = ((cols : Int), (rows : Int))
  n : c.bs.length = cn * rn
  z : Pl.sized cn rn = 0
  z2 : Pl.sized cols rows = 0
  m : cols * rows = cn * rn
theorem natK {k : Int} (hk : 0 ≤ k ∧ k < 8) {c : CompArg} (h : Pl.right c.c c.r c.bs.length = true) : ∃ cn rn cols rows : Nat, NatK k c cn rn cols rows := by
  obtain ⟨h1, h2, -, -, h3, -⟩ := Pl.right_nat h
  have z : Pl.sized c.c c.r = 0 := by
    unfold Pl.right at h
    simp only [Bool.and_eq_true, beq_iff_eq] at h
    exact h.1
  obtain ⟨cn, hc⟩ := Int.eq_ofNat_of_zero_le (show 0 ≤ c.c by omega)
  obtain ⟨rn, hr⟩ := Int.eq_ofNat_of_zero_le (show 0 ≤ c.r by omega)
  rw [hc, hr] at z h3
  have hn : c.bs.length = cn * rn := by exact_mod_cast h3
  by_cases h4 : 4 ≤ k
  · have hs := sides_hiE (cn : Int) (rn : Int) h4 hk.2
    have := sized_sides hk.1 hk.2 hs z
    exact ⟨cn, rn, rn, cn, hc, hr, hs, hn, z, this.1, this.2⟩
  · have hs := sides_loE (cn : Int) (rn : Int) hk.1 h4
    have := sized_sides hk.1 hk.2 hs z
    exact ⟨cn, rn, cn, rn, hc, hr, hs, hn, z, this.1, this.2⟩
end Go.Proofs.YtgmhhocpdfdplaaGreat
/- A part of a row's cells replaced; own images with a component, a table replaced. -/
namespace Go.Proofs.YtgmhhocpdfdplaaGreat
open Go.RowKit
set_option maxRecDepth 100000
theorem Row.mid {w : World} {lo : Nat} {e : TypeId} {size n g cap : Nat} {xs : List Value} (h : Row w lo e size (.slice (some ⟨g, 0, none⟩) n cap) n xs) (o : Nat) (l : List Value) (ho : o + l.length ≤ n * size) :
    Row (w.setCells g o l) lo e size (.slice (some ⟨g, 0, none⟩) n cap) n (xs.take o ++ l ++ xs.drop (o + l.length)) := by
  have hx := h.1
  refine ⟨by simp only [List.length_append, List.length_take, List.length_drop]; omega, ?_⟩
  rcases h.2 with ⟨h0, _⟩ | ⟨g', cap', cur, h0, h2, h3, h4, h5, h6, h7⟩
  · cases h0
  · cases h0
    have hnc : n * size ≤ cap * size := Nat.mul_le_mul_right _ h4
    have hcur : n * size ≤ cur.toList.length := by simp; omega
    have hB := Blk.cells_set (g := g) (t := e) l o w cur.toList (by simpa using h3) (by omega)
    refine .inr ⟨g, cap, _, rfl, h2, hB, h4, h5, ?_, ?_⟩
    · simp only [List.size_toArray, List.length_append, List.length_take, List.length_drop]
      simp only [Array.length_toList] at *
      omega
    · rw [← h7]
      generalize cur.toList = C at *
      simp only [List.take_append, List.take_take, List.length_append, List.length_take, List.drop_take]
      have m1 : min (n * size) o = o := by omega
      have m2 : min o (n * size) = o := by omega
      have m3 : min o C.length = o := by omega
      rw [m1, m2, m3, List.take_of_length_le (l := l) (i := n * size - o) (by omega), Nat.sub_add_eq]
theorem flat_mid {size : Nat} : ∀ (L : List (List Value)) (k a : Nat) (l : List Value), (∀ x ∈ L, x.length = size) → (hk : k < L.length) → a + l.length ≤ size →
    L.flatten.take (k * size + a) ++ l ++ L.flatten.drop (k * size + a + l.length) = (L.set k ((L[k]'hk).take a ++ l ++ (L[k]'hk).drop (a + l.length))).flatten
  | x :: L, 0, a, l, h, _, ha => by
    have hx := h x (by simp)
    simp only [Nat.zero_mul, Nat.zero_add, List.flatten_cons, List.set_cons_zero, List.getElem_cons_zero]
    rw [List.take_append_of_le_length (by omega), List.drop_append_of_le_length (by omega)]
    simp [List.append_assoc]
  | x :: L, k + 1, a, l, h, hk, ha => by
    have hx := h x (by simp)
    have ih := flat_mid L k a l (fun y hy => h y (by simp [hy])) (by simpa using hk) ha
    simp only [List.flatten_cons, List.set_cons_succ, List.getElem_cons_succ]
    rw [← ih]
    have e1 : (k + 1) * size + a = x.length + (k * size + a) := by rw [hx, Nat.add_mul]; omega
    have e2 : (k + 1) * size + a + l.length = x.length + (k * size + a + l.length) := by rw [hx, Nat.add_mul]; omega
    rw [e2, e1, List.take_length_add_append, List.drop_length_add_append]
    simp [List.append_assoc]
theorem set_other {W : World} {g o : Nat} {l : List Value} {k : Nat} (h : k ≠ g) : (W.setCells g o l).heap[k]? = W.heap[k]? := (setCells_chg g l o W).2.2.2 k h
theorem below_wrote {B : Nat} {w W : World} (h : Below B w W) {g : Nat} (hg : B ≤ g) (o : Nat) (l : List Value) : Below B w (W.setCells g o l) := by
  obtain ⟨s1, s2, s3, s4⟩ := setCells_chg g l o W
  exact ⟨s1.trans h.os, s2.trans h.tape, s3.trans h.output, by rw [setCells_size]; exact h.size, fun k hk => (s4 k (by omega)).trans (h.block k hk)⟩
theorem Blk.wrote {W : World} {b : Nat} {cs : Array Value} {t : TypeId} (h : Blk W b cs t) {g : Nat} (hb : b ≠ g) (o : Nat) (l : List Value) : Blk (W.setCells g o l) b cs t := (set_other hb).trans h
/-- A row of another type stays. -/
theorem Row.nor {W : World} {lo : Nat} {e : TypeId} {size n : Nat} {u : Value} {xs : List Value} (hr : Row W lo e size u n xs) {g : Nat} {e2 : TypeId} (hg : ∃ cur, Blk W g cur e2) (he : e ≠ e2) (o : Nat) (l : List Value) : Row (W.setCells g o l) lo e size u n xs := by
  obtain ⟨cur, hg⟩ := hg
  exact hr.same fun k hk => set_other (hr.typed hg (Ne.symm he) k hk)
theorem OwnL.putC {N g cap k : Nat} {x : ImgArg} {w W : World} (h : OwnL N x w W) (hc : x.cu = .slice (some ⟨g, 0, none⟩) x.cs.length cap) (hk : k < x.cs.length) (c : CompArg)
    (hv : Row W N 66 64 c.u c.bs.length (bcells c.bs)) (hok : ∀ W', Ar W' 64 c.u c.bs.length (bcells c.bs) → c.Ok W') :
    OwnL N { x with cs := x.cs.set k c } w (W.setCells g (k * 7) c.cells) := by
  have hlo := h.row.lt g (by rw [hc]; rfl)
  have hrow := h.row
  rw [hc] at hrow
  have hgb := hrow.blk
  have hl7 : c.cells.length = 7 := rfl
  have hk7 : k * 7 + 7 ≤ x.cs.length * 7 := by omega
  have hm := hrow.mid (k * 7) c.cells (by rw [hl7]; exact hk7)
  have hf := flat_mid (size := 7) (x.cs.map CompArg.cells) k 0 c.cells (fun y hy => by obtain ⟨p, _, rfl⟩ := List.mem_map.1 hy; rfl) (by simpa using hk) (by rw [hl7]; exact Nat.le_refl _)
  have hd : ((x.cs.map CompArg.cells)[k]'(by simpa using hk)).drop (0 + c.cells.length) = [] := by rw [hl7]; exact List.drop_eq_nil_of_le (by simp [CompArg.cells])
  rw [Nat.add_zero, hd, List.take_zero, List.nil_append, List.append_nil, ← List.map_set] at hf
  rw [hf] at hm
  refine ⟨?_, ?_, h.q.nor hgb (by decide) _ _, h.t.nor hgb (by decide) _ _, h.qok, h.tok, h.hN, below_wrote h.hB hlo.1 _ _, by rw [setCells_size]; exact h.hW⟩
  · show Row _ N _ 7 x.cu (x.cs.set k _).length _
    rw [hc, List.length_set]
    exact hm
  · intro c2 hcm
    rcases List.mem_or_eq_of_mem_set hcm with h1 | rfl
    · exact ⟨(h.pl c2 h1).1.nor hgb (by decide) _ _, (h.pl c2 h1).2⟩
    · exact ⟨hv.nor hgb (by decide) _ _, hok⟩
theorem OwnL.putQ {N g cap k : Nat} {x : ImgArg} {w W : World} (h : OwnL N x w W) (hc : x.qu = .slice (some ⟨g, 0, none⟩) x.qs.length cap) (hk : k < x.qs.length) (t : List Int) (ht : t.length = 64) (hw : ∀ y ∈ t, (Lit.int .u16 y).wf = true) :
    OwnL N { x with qs := x.qs.set k ⟨(x.qs[k]'hk).at_, t⟩ } w (W.setCells g (k * 65 + 1) (t.map (Value.int .u16))) := by
  have hlo := h.q.lt g (by rw [hc]; rfl)
  have hrow := h.q
  rw [hc] at hrow
  have hgb := hrow.blk
  have hl : (t.map (Value.int .u16)).length = 64 := by simpa using ht
  have hkk : k * 65 + 65 ≤ x.qs.length * 65 := by omega
  have hm := hrow.mid (k * 65 + 1) (t.map (Value.int .u16)) (by rw [hl]; omega)
  have hq := h.qok _ (List.getElem_mem hk)
  have hf := flat_mid (size := 65) (x.qs.map QuantArg.cells) k 1 (t.map (Value.int .u16)) (fun y hy => by obtain ⟨p, hp, rfl⟩ := List.mem_map.1 hy; simp [QuantArg.cells, (h.qok p hp).l64]) (by simpa using hk) (by rw [hl]; exact Nat.le_refl _)
  have hd : ((x.qs.map QuantArg.cells)[k]'(by simpa using hk)).take 1 ++ t.map (Value.int .u16) ++ ((x.qs.map QuantArg.cells)[k]'(by simpa using hk)).drop (1 + (t.map (Value.int .u16)).length) = QuantArg.cells ⟨(x.qs[k]'hk).at_, t⟩ := by
    rw [hl, List.drop_eq_nil_of_le (by simp [QuantArg.cells, hq.l64]), List.append_nil]
    simp [QuantArg.cells]
  rw [hd, ← List.map_set] at hf
  rw [hf] at hm
  refine ⟨h.row.nor hgb (by decide) _ _, fun c hcm => ⟨(h.pl c hcm).1.nor hgb (by decide) _ _, (h.pl c hcm).2⟩, ?_, h.t.nor hgb (by decide) _ _, ?_, h.tok, h.hN, below_wrote h.hB hlo.1 _ _, by rw [setCells_size]; exact h.hW⟩
  · show Row _ N _ 65 x.qu (x.qs.set k _).length _
    rw [hc, List.length_set]
    exact hm
  · intro q hqm
    rcases List.mem_or_eq_of_mem_set hqm with h1 | rfl
    · exact h.qok q h1
    · exact ⟨hq.wa, ht, hw⟩
theorem Row.thereN {w : World} {lo : Nat} {e : TypeId} {size n g cap : Nat} {xs : List Value} (h : Row w lo e size (.slice (some ⟨g, 0, none⟩) n cap) n xs) (o m : Nat) (ho : o + m ≤ n * size) : World.there w g o m := by
  rcases h.2 with ⟨h0, _⟩ | ⟨g', cap', cur, h0, h2, h3, h4, h5, h6, h7⟩
  · cases h0
  · cases h0
    intro j hj
    have hnc : n * size ≤ cap * size := Nat.mul_le_mul_right _ h4
    have hlt : o + j < cur.size := by omega
    exact ⟨by rw [h3.cell, Array.getElem?_eq_getElem hlt]; rfl, h3.free _⟩
end Go.Proofs.YtgmhhocpdfdplaaGreat
/- Package flip: a component turned. -/
namespace Go.Proofs.YtgmhhocpdfdplaaGreat
open Go.RowKit
set_option maxRecDepth 100000
set_option maxHeartbeats 8000000
/-- The boxes of flip.comp: the component, k, the result. -/
structure KB (N : Nat) (k : Int) (cs : Array Value) (w V : World) : Prop where
  bN : Blk V N cs 48
  bK : Blk V (N + 1) #[.int .i64 k] 3
  bQ : Blk V (N + 2) #[.int .i64 0, .int .i64 0, .int .i64 0, .int .i64 0, .int .i64 0, .int .i64 0, .slice none 0 0] 48
  hB : Below N w V
theorem KB.below {N : Nat} {k : Int} {cs : Array Value} {w V V' : World} (h : KB N k cs w V) (hb : Below V.heap.size V V') : KB N k cs w V' :=
  ⟨h.bN.below hb h.bN.lt, h.bK.below hb h.bK.lt, h.bQ.below hb h.bQ.lt, h.hB.trans (hb.mono (Nat.le_of_lt h.bN.lt))⟩
theorem KB.wrote {N : Nat} {k : Int} {cs : Array Value} {w V : World} (h : KB N k cs w V) {g : Nat} (hg : N + 2 < g) (o : Nat) (l : List Value) : KB N k cs w (V.setCells g o l) :=
  ⟨h.bN.wrote (by omega) _ _, h.bK.wrote (by omega) _ _, h.bQ.wrote (by omega) _ _, below_wrote h.hB (by omega) _ _⟩
theorem blk_getD {bs : List (List Int)} {i : Nat} (hi : i < bs.length) : bs.getD i [] = Pl.blk bs i := by
  rw [← Pl.blk_eq hi]
  simp [List.getD_eq_getElem?_getD, hi]
theorem flip_comp (k : Int) (h0 : 0 ≤ k) (h8 : k < 8) (c0 : CompArg) (cn rn cols rows : Nat) (hk : NatK k c0 cn rn cols rows) (w : World) (hok : c0.Ok w) :
    Calls Tryz.prog 30 #[c0.val, .int .i64 k] w fun r w' => ∃ v, r = .returned (.agg #[.int .i64 c0.id, .int .i64 (Tu.sides k c0.h c0.v).1, .int .i64 (Tu.sides k c0.h c0.v).2, .int .i64 c0.q, .int .i64 cols, .int .i64 rows, v]) ∧
      Row w' w.heap.size 66 64 v (cols * rows) (bcells (flipB k c0.bs cn rn cols (cols * rows))) ∧ Below w.heap.size w w' := by
  obtain ⟨hc, hr, hsd, hn, hz, hz2, hm⟩ := hk
  obtain ⟨j1, j2, j3, j4, j5, j6⟩ := Pl.sized_ok hz
  obtain ⟨i1, i2, i3, i4, i5, i6⟩ := Pl.sized_ok hz2
  have hA := hok.ar
  have h64 := hok.h64
  obtain ⟨ub, ucap, hu, -, -⟩ := hA.len
  have hs1 := fun W => sides_any k cn rn W
  have hs2 := fun W => sides_any k c0.h c0.v W
  rw [hsd] at hs1
  have hri : Pl.right cn rn c0.bs.length = true := by
    unfold Pl.right
    rw [hz, hn]
    simp
  have hmv := fun P W (hS : Blk W (w.heap.size + 1) #[.int .i64 k] 3 ∧ Blk W (P) #[.int .i64 cn, .int .i64 rn, c0.u] 46) hA => plane_moved_g 54 #[.pointer (some ⟨w.heap.size + 1, 0, none⟩), .pointer (some ⟨P, 0, none⟩)]
    (fun W => Blk W (w.heap.size + 1) #[.int .i64 k] 3 ∧ Blk W (P) #[.int .i64 cn, .int .i64 rn, c0.u] 46) (srcN k cn rn cols) cn rn cols rows c0.u c0.bs h64 hri hn hz2
    (fun j hj => ⟨(src_in h0 h8 hsd hj).1, (src_in h0 h8 hsd hj).2.1⟩) (enters_of Tryz.func54 (by kernel_rfl) rfl) W (fun V hb => ⟨hS.1.below hb hS.1.lt, hS.2.below hb hS.2.lt⟩)
    (fun j hj V hS => by
      have hj1 : j / cols < rows := Nat.div_lt_of_lt_mul hj
      have hj2 : j % cols < cols := Nat.mod_lt _ (by omega)
      have e1 : (j : Int) / (cols : Int) = ((j / cols : Nat) : Int) := (Int.natCast_ediv _ _).symm
      have e2 : (j : Int) % (cols : Int) = ((j % cols : Nat) : Int) := (Int.natCast_emod _ _).symm
      have g1 : 0 ≤ (j : Int) / (cols : Int) ∧ (j : Int) / (cols : Int) ≤ 1000000 := by rw [e1]; generalize j / cols = a at *; generalize j % cols = b at *; clear e1 e2; omega
      have g2 : 0 ≤ (j : Int) % (cols : Int) ∧ (j : Int) % (cols : Int) ≤ 1000000 := by rw [e2]; generalize j / cols = a at *; generalize j % cols = b at *; clear e1 e2; omega
      have hf := flip_from (w.heap.size + 1) (P) k cn rn ((j : Int) / (cols : Int)) ((j : Int) % (cols : Int)) c0.u h0 h8 (by omega) (by omega) (by omega) (by omega) g1.1 g1.2 g2.1 g2.2 V hS.1 hS.2
      rw [(src_in h0 h8 hsd hj).2.2] at hf
      refine hf.mono ?_
      rintro e w' ⟨rfl, rfl⟩
      exact ⟨rfl, Below.refl _ _⟩) hA
  have hM : (List.range (cols * rows)).map (fun j => Pl.blk c0.bs ((srcN k cn rn cols j).1 * cn + (srcN k cn rn cols j).2)) = movB k c0.bs cn rn cols (cols * rows) := rfl
  rw [hM] at hmv
  have hM64 := movB_right k h64 cn rn cols (cols * rows)
  have hMl := movB_len k c0.bs cn rn cols (cols * rows)
  have hFB : flipB k c0.bs cn rn cols (cols * rows) = (movB k c0.bs cn rn cols (cols * rows)).map (Tu.block k) := rfl
  rw [hFB]
  clear hFB hM
  generalize movB k c0.bs cn rn cols (cols * rows) = M at *
  obtain ⟨n, hcn⟩ : ∃ n, cols * rows = n := ⟨_, rfl⟩
  have hn1 : 1 ≤ n := by rw [← hcn]; exact Nat.mul_pos (by omega) (by omega)
  have hn2 : n ≤ 16384 := by rw [← hcn]; exact_mod_cast i6
  rw [hcn] at hmv hMl ⊢
  generalize Tu.sides k c0.h c0.v = hv at *
  obtain ⟨H', V'⟩ := hv
  simp only at hs2
  unfold CompArg.val
  rw [hu] at hA hmv ⊢
  generalize c0.bs = bs at *
  generalize c0.id = x0 at *
  generalize c0.h = x1 at *
  generalize c0.v = x2 at *
  generalize c0.q = x3 at *
  rw [hc, hr]
  clear hok hu hc hr hri hz hz2 hsd
  obtain ⟨N, hN⟩ : ∃ N, N = w.heap.size := ⟨_, rfl⟩
  have HN := Lib.hid hN
  have hbl := fun b (hl : b.length = 64) W => block_any k b hl W
  rw [← hN] at hmv ⊢
  have HC := Lib.hid hcn
  have HA := Lib.hid hA
  have HBL := Lib.hid hbl
  have HMl := Lib.hid hMl
  have HNN := Lib.hid hn
  clear hN j5 j6 i5 i6 hm hcn hA hbl hMl hn
  go_enter Tryz.func30, Tryz.ntmps30
  go_upto_region 1 with fail
  refine wp_world (KB N k #[.int .i64 x0, .int .i64 x1, .int .i64 x2, .int .i64 x3, .int .i64 cn, .int .i64 rn, .slice ub bs.length ucap] w) ⟨((Blk.new' _ _ _ HN.out).alloc _).alloc _, (Blk.new' _ _ _ (by rw [HN.out]; simp)).alloc _, Blk.new' _ _ _ (by rw [HN.out]; simp), (((Below.refl _ _).alloc (Nat.le_of_eq HN.out) _).alloc (by rw [HN.out]; simp) _).alloc (by rw [HN.out]; simp; omega) _⟩ ?_
  rw [← HN.out]
  intro V hK
  have c4 := hK.bN.cell 4; have c5 := hK.bN.cell 5; have c6 := hK.bN.cell 6
  have hNl := hK.bQ.lt
  obtain ⟨P, hP⟩ : ∃ P, P = V.heap.size := ⟨_, rfl⟩
  have HP := Lib.hid hP
  have hbe : Below V.heap.size V ((V.alloc (.cells #[.int .i64 0, .int .i64 0, .slice none 0 0] 46)).setRow P #[.int .i64 cn, .int .i64 rn, .slice ub bs.length ucap]) := Below.setRow ((Below.refl _ _).alloc (Nat.le_refl _) _) (Nat.le_of_eq hP.symm) _
  have hPN : N + 2 < P := by omega
  clear hP
  go_upto_region 2 with (refine wpList_store_row rfl 46 _ _ rfl P _ (by rw [HP.out]; rfl) rfl 46 _ (Blk.new' _ _ _ HP.out) (by kernel_rfl) rfl (by simp [Value.oneCell']) ?_; simp only [Act.put])
  try rw [← HP.out]
  refine wp_world (fun V => KB N k #[.int .i64 x0, .int .i64 x1, .int .i64 x2, .int .i64 x3, .int .i64 cn, .int .i64 rn, .slice ub bs.length ucap] w V ∧ Blk V P #[.int .i64 cn, .int .i64 rn, .slice ub bs.length ucap] 46) ⟨hK.below hbe, (Blk.new' _ _ _ HP.out).row _⟩ ?_
  clear hK hbe HP c4 c5 c6 hNl
  clear V
  rintro V ⟨hK, bP⟩
  have p0 := bP.cell 0; have p1 := bP.cell 1
  have m0 := hK.bK.cell 0
  have c1 := hK.bN.cell 1; have c2 := hK.bN.cell 2
  have f1 := hK.bN.free 1
  have b1 := hK.bN.set 1 (.int .i64 H')
  have r2 := b1.cell 2
  have f2 := b1.free 2
  have b2 := b1.set 2 (.int .i64 V')
  simp only [List.setIfInBounds_toArray, List.set_cons_zero, List.set_cons_succ] at b2
  have hX : KB N k #[.int .i64 x0, .int .i64 H', .int .i64 V', .int .i64 x3, .int .i64 cn, .int .i64 rn, .slice ub bs.length ucap] w ((V.setCell ⟨N, 1, none⟩ (.int .i64 H')).setCell ⟨N, 2, none⟩ (.int .i64 V')) ∧ Blk ((V.setCell ⟨N, 1, none⟩ (.int .i64 H')).setCell ⟨N, 2, none⟩ (.int .i64 V')) P #[.int .i64 cn, .int .i64 rn, .slice ub bs.length ucap] 46 :=
    ⟨⟨b2, (hK.bK.other _ _ (by show N + 1 ≠ N; omega)).other _ _ (by show N + 1 ≠ N; omega), (hK.bQ.other _ _ (by show N + 2 ≠ N; omega)).other _ _ (by show N + 2 ≠ N; omega), (hK.hB.setCell (Nat.le_refl N) _).setCell (Nat.le_refl N) _⟩, (bP.other _ _ (by show P ≠ N; omega)).other _ _ (by show P ≠ N; omega)⟩
  go_upto_region 4 with (first
    | (go_at_call 29; (with_reducible refine (hs1 _).mono ?_); rintro e w1 ⟨rfl, rfl⟩)
    | (go_at_call 29; (with_reducible refine (hs2 _).mono ?_); rintro e w1 ⟨rfl, rfl⟩))
  refine wp_world (fun V => KB N k #[.int .i64 x0, .int .i64 H', .int .i64 V', .int .i64 x3, .int .i64 cn, .int .i64 rn, .slice ub bs.length ucap] w V ∧ Blk V P #[.int .i64 cn, .int .i64 rn, .slice ub bs.length ucap] 46) hX ?_
  clear hX hK bP p0 p1 m0 c1 c2 f1 b1 r2 f2 b2 hs1 hs2
  clear V
  rintro V ⟨hK, bP⟩
  have hmv := hmv P V ⟨hK.bK, bP⟩ (HA.out.below (by rw [← HN.out]; exact hK.hB))
  have hPl := bP.lt
  go_upto_region 5 with (first
    | (refine wpList_load_row rfl 46 _ rfl P rfl 46 _ _ _ bP Tryz.underlying46 rfl (by kernel_rfl) ?_)
    | (go_at_call 53; refine hmv.mono ?_; rintro e V1 ⟨hb1, v, rfl, hRw⟩; obtain ⟨g, gcap, rfl, hg1, -, -⟩ := hRw.cells hn1; have hK1 := hK.below hb1)
    | (refine wpList_store_mid rfl 46 _ _ rfl N 4 #[.int .i64 cols, .int .i64 rows, .slice (some ⟨g, 0, none⟩) n gcap] rfl rfl (fun j hj => ⟨by rw [hK1.bN.cell]; simp at hj ⊢; omega, hK1.bN.free _⟩) (by kernel_rfl) (by simp [Value.oneCell']) ?_; simp only [Act.put]))
  have hgN : N ≠ g := by omega
  have bs1 := Blk.cells_set (g := N) (t := 48) [.int .i64 cols, .int .i64 rows, .slice (some ⟨g, 0, none⟩) n gcap] 4 V1 [.int .i64 x0, .int .i64 H', .int .i64 V', .int .i64 x3, .int .i64 cn, .int .i64 rn, .slice ub bs.length ucap] hK1.bN (by simp)
  simp only [List.take_succ_cons, List.take_zero, List.length_cons, List.length_nil, List.drop_succ_cons, Nat.reduceAdd, List.cons_append, List.nil_append, List.drop_nil] at bs1
  obtain ⟨Q, hQ⟩ : ∃ Q, Q = V.heap.size := ⟨_, rfl⟩
  have hQN : N + 2 < Q := by omega
  have hX : (fun V => KB N k #[.int .i64 x0, .int .i64 H', .int .i64 V', .int .i64 x3, .int .i64 cols, .int .i64 rows, .slice (some ⟨g, 0, none⟩) n gcap] w V ∧ Row V Q 66 64 (.slice (some ⟨g, 0, none⟩) n gcap) n (bcells M)) (V1.setCells N 4 [.int .i64 cols, .int .i64 rows, .slice (some ⟨g, 0, none⟩) n gcap]) :=
    ⟨⟨bs1, hK1.bK.wrote (by omega) _ _, hK1.bQ.wrote (by omega) _ _, below_wrote hK1.hB (Nat.le_refl N) _ _⟩, by rw [hQ]; exact hRw.same fun b hb => set_other (by cases hb; exact fun e => hgN e.symm)⟩
  refine wp_world (fun V => KB N k #[.int .i64 x0, .int .i64 H', .int .i64 V', .int .i64 x3, .int .i64 cols, .int .i64 rows, .slice (some ⟨g, 0, none⟩) n gcap] w V ∧ Row V Q 66 64 (.slice (some ⟨g, 0, none⟩) n gcap) n (bcells M)) hX ?_
  clear hX bs1 hK1 hRw hb1 hmv hK bP hPl hgN hg1 hQ
  clear V V1
  rintro V ⟨hK, hRw⟩
  have hgQ := (hRw.lt g rfl).1
  have c6 : V.cell? ⟨N, 6, none⟩ = some (.slice (some ⟨g, 0, none⟩) n gcap) := hK.bN.cell 6
  go_wp2
  clear c6
  go_loopw [45] (fun iv wr => ∃ (i : Nat) (L : List (List Int)), i ≤ n ∧ iv = .int .i64 i ∧ L.length = n ∧ Right64 L ∧ (∀ j, j < n → Pl.blk L j = if j < i then Tu.block k (Pl.blk M j) else Pl.blk M j) ∧ (fun V => KB N k #[.int .i64 x0, .int .i64 H', .int .i64 V', .int .i64 x3, .int .i64 cols, .int .i64 rows, .slice (some ⟨g, 0, none⟩) n gcap] w V ∧ Row V Q 66 64 (.slice (some ⟨g, 0, none⟩) n gcap) n (bcells L)) wr) (fun iv _ => n - (intOf iv).toNat)
  case atStart => exact ⟨0, M, Nat.zero_le _, rfl, HMl.out, hM64, fun j hj => by rw [if_neg (by omega)], hK, hRw⟩
  case round =>
    clear hK hRw
    obtain ⟨i, L, hi, rfl, hLl, hL64, hLj, hK, hRw⟩ := hrel
    have HLl := Lib.hid hLl
    have HLj := Lib.hid hLj
    by_cases hlt : i < n
    · have tl : decide (i < n) = true := by simpa using hlt
      have hil : i < L.length := by rw [hLl]; exact hlt
      obtain ⟨x, hx⟩ : ∃ x, L.getD i [] = x := ⟨_, rfl⟩
      have hxM : x = Pl.blk M i := by rw [← hx, blk_getD hil, hLj i hlt, if_neg (by omega)]
      have hx64 : x.length = 64 := by rw [hxM]; exact Pl.blk_len hM64 _
      have HXM := Lib.hid hxM
      have j0 : (0 : Int) ≤ (i : Int) := by omega
      have j1 : (i : Int) < (n : Int) := by omega
      have hAr := hRw.ar
      have hadd : (⟨g, 0, none⟩ : Addr).add (i * 64) = ⟨g, i * 64, none⟩ := by unfold Addr.add; split <;> simp_all
      have hbl := fun W => HBL.out x hx64 W
      clear hLj hxM hLl
      obtain ⟨C, hC⟩ : ∃ C, C = wr.heap.size := ⟨_, rfl⟩
      have HC := Lib.hid hC
      have hgC : g < C := by rw [hC]; exact (hRw.lt g rfl).2
      clear hC
      go_upto_region 8 with (first
        | (refine Great.wpList_runTo rfl _ rfl _ _ (ar_loady hAr hL64 i hil x hx _ rfl (by rw [hadd]; rfl)) ?_)
        | (refine Great.wpList_runTo rfl _ rfl _ _ (run_alloc_blk _ rfl) ?_)
        | (refine wpList_store_row rfl 66 _ _ rfl C _ (by rw [HC.out]; rfl) rfl 66 _ (Blk.new' _ _ _ HC.out) (by rw [ints_size, hx64]; kernel_rfl) (by rw [ints_size, ints_size, hx64]; rfl) (ints_one _ _) ?_))
      have hbe : Below wr.heap.size wr ((wr.alloc (.cells (ints .i16 (List.replicate 64 0)) 66)).setRow C (ints .i16 x)) := Below.setRow ((Below.refl _ _).alloc (Nat.le_refl _) _) (Nat.le_of_eq HC.out.symm) _
      try rw [← HC.out]
      refine wp_world (fun V => (KB N k #[.int .i64 x0, .int .i64 H', .int .i64 V', .int .i64 x3, .int .i64 cols, .int .i64 rows, .slice (some ⟨g, 0, none⟩) n gcap] w V ∧ Row V Q 66 64 (.slice (some ⟨g, 0, none⟩) n gcap) n (bcells L)) ∧ Blk V C (ints .i16 x) 66) ⟨⟨hK.below hbe, hRw.grow hbe⟩, (Blk.new' _ _ _ HC.out).row _⟩ ?_
      have hCw := HC.out
      clear hbe hK hRw hAr HC
      intro V hG0
      have hGm : ∀ V V2, (fun V => (KB N k #[.int .i64 x0, .int .i64 H', .int .i64 V', .int .i64 x3, .int .i64 cols, .int .i64 rows, .slice (some ⟨g, 0, none⟩) n gcap] w V ∧ Row V Q 66 64 (.slice (some ⟨g, 0, none⟩) n gcap) n (bcells L)) ∧ Blk V C (ints .i16 x) 66) V → Below V.heap.size V V2 → (fun V => (KB N k #[.int .i64 x0, .int .i64 H', .int .i64 V', .int .i64 x3, .int .i64 cols, .int .i64 rows, .slice (some ⟨g, 0, none⟩) n gcap] w V ∧ Row V Q 66 64 (.slice (some ⟨g, 0, none⟩) n gcap) n (bcells L)) ∧ Blk V C (ints .i16 x) 66) V2 := fun V V2 h hb => ⟨⟨h.1.1.below hb, h.1.2.grow hb⟩, h.2.below hb h.2.lt⟩
      refine wp_region_mono [0, 1, 2, 3, 4, 5, 6, 7] [8] (fun V => (KB N k #[.int .i64 x0, .int .i64 H', .int .i64 V', .int .i64 x3, .int .i64 cols, .int .i64 rows, .slice (some ⟨g, 0, none⟩) n gcap] w V ∧ Row V Q 66 64 (.slice (some ⟨g, 0, none⟩) n gcap) n (bcells L)) ∧ Blk V C (ints .i16 x) 66) (fun | 6 => some (sFix (.agg (ints .i16 (Tu.block k x)))) | _ => none) (fun _ => []) (by kernel_rfl) (by kernel_rfl) (hGm _ _ hG0 (Below.refl _ _).drew) ?_ ?_
      · intro i s hs
        match i with
        | 6 => cases hs; exact fun _ _ => sFix_mono _ _ _
      clear hG0
      simp only [pick, List.getD_cons_succ, List.getD_cons_zero, List.zip_cons_cons, List.zip_nil_right]
      iterate 2 (first | (refine mono_skip (by rfl) ?_; simp only [Act.put, List.setIfInBounds_toArray, List.set_cons_zero, List.set_cons_succ]) | (refine mono_pure (v := ?_) (by rfl) rfl ?_ ?_; rotate_left; (intro wS hS; go_simp; try with_reducible rfl); simp only [Act.put, List.setIfInBounds_toArray, List.set_cons_zero, List.set_cons_succ]))
      refine mono_pure (v := .slice (some ⟨g, 0, none⟩) n gcap) (by rfl) rfl (fun w1 hG => by have cy : w1.cell? ⟨N, 6, none⟩ = some (.slice (some ⟨g, 0, none⟩) n gcap) := hG.1.1.bN.cell 6; go_simp; try with_reducible rfl) ?_
      simp only [Act.put, List.setIfInBounds_toArray, List.set_cons_zero, List.set_cons_succ]
      (first | (refine mono_skip (by rfl) ?_; simp only [Act.put, List.setIfInBounds_toArray, List.set_cons_zero, List.set_cons_succ]) | (refine mono_pure (v := ?_) (by rfl) rfl ?_ ?_; rotate_left; (intro wS hS; go_simp; try with_reducible rfl); simp only [Act.put, List.setIfInBounds_toArray, List.set_cons_zero, List.set_cons_succ]))
      refine mono_pure (v := .int .i64 k) (by rfl) rfl (fun w1 hG => by have cy : w1.cell? ⟨N + 1, 0, none⟩ = some (.int .i64 k) := hG.1.1.bK.cell 0; go_simp; try with_reducible rfl) ?_
      simp only [Act.put, List.setIfInBounds_toArray, List.set_cons_zero, List.set_cons_succ]
      refine mono_pure (by rfl) rfl (fun w1 hG => run_exec_load_row 66 _ rfl C rfl 66 _ _ hG.2 Tryz.underlying66 rfl (by rw [ints_size, hx64]; kernel_rfl)) ?_
      simp only [Act.put, List.setIfInBounds_toArray, List.set_cons_zero, List.set_cons_succ]
      refine mono_fix (.agg (ints .i16 (Tu.block k x))) (by rfl) rfl hGm (by intro w hG; go_simp; first | done | exact ⟨rfl, rfl⟩) (fun w1 hG hH => hbl w1) ?_
      simp only [Act.put, List.setIfInBounds_toArray, List.set_cons_zero, List.set_cons_succ]
      (first | (refine mono_skip (by rfl) ?_; simp only [Act.put, List.setIfInBounds_toArray, List.set_cons_zero, List.set_cons_succ]) | (refine mono_pure (v := ?_) (by rfl) rfl ?_ ?_; rotate_left; (intro wS hS; go_simp; try with_reducible rfl); simp only [Act.put, List.setIfInBounds_toArray, List.set_cons_zero, List.set_cons_succ]))
      refine mono_nil ?_
      rintro V5 ⟨⟨hK, hRw⟩, bC⟩ -
      have hyl : (Tu.block k x).length = 64 := Tu.block_len _ _
      have hth := hRw.thereN (i * 64) (ints .i16 (Tu.block k x)).size (by rw [ints_size, hyl]; omega)
      have hput := Row.put hRw hL64 HLl.out i hlt (Tu.block k x) hyl
      have hvs : (ints .i16 (Tu.block k x)).toList = (Tu.block k x).map (Value.int .i16) := by simp [ints]
      have hKw := hK.wrote (g := g) (by omega) (i * 64) ((Tu.block k x).map (Value.int .i16))
      have hL2 : (L.set i (Tu.block k x)).length = n := by rw [List.length_set]; exact HLl.out
      have hL3 : Right64 (L.set i (Tu.block k x)) := fun y hy => by rcases List.mem_or_eq_of_mem_set hy with hy | rfl; exact hL64 y hy; exact hyl
      have hL4 : ∀ j, j < n → Pl.blk (L.set i (Tu.block k x)) j = if j < i + 1 then Tu.block k (Pl.blk M j) else Pl.blk M j := fun j hj => by
        by_cases hji : j = i
        · subst hji
          rw [Pl.blk_set_self (by rw [HLl.out]; exact hj), if_pos (by omega), HXM.out]
        · rw [Pl.blk_set_ne hji, HLj.out j hj]
          by_cases h2 : j < i
          · rw [if_pos h2, if_pos (by omega)]
          · rw [if_neg h2, if_neg (by omega)]
      have HF := Lib.hid (And.intro hL2 (And.intro hL3 (And.intro hL4 (And.intro hKw hput))))
      clear hL2 hL3 hL4 hKw hput hK hRw bC hGm hbl hadd hx
      go_wp2_with (refine wpList_store_mid rfl 66 _ _ rfl g (i * 64) (ints .i16 (Tu.block k x)) rfl rfl hth (by rw [ints_size, hyl]; kernel_rfl) (ints_one _ _) ?_)
      exact ⟨⟨i + 1, _, by omega, by go_num, HF.out.1, HF.out.2.1, HF.out.2.2.1, HF.out.2.2.2.1, HF.out.2.2.2.2⟩, by simp [intOf]; omega⟩
    · obtain rfl : i = n := by omega
      have tl : decide (i < i) = false := by simp
      have hLe : L = M.map (Tu.block k) := by
        apply List.ext_getElem
        · rw [List.length_map, hLl, HMl.out]
        · intro j h1 h2
          have hj : j < i := by rw [hLl] at h1; exact h1
          have := hLj j hj
          rw [if_pos hj, ← Pl.blk_eq h1, ← Pl.blk_eq (by rw [HMl.out]; exact hj)] at this
          rw [this, List.getElem_map]
      subst hLe
      clear HLl HLj hLj
      go_wp2_with (first
        | (refine wpList_load_row rfl 48 _ rfl N rfl 48 _ _ _ hK.bN Tryz.underlying48 rfl (by kernel_rfl) ?_)
        | (refine wpList_store_row rfl 48 _ _ rfl (N + 2) _ rfl rfl 48 _ hK.bQ (by kernel_rfl) rfl (by simp [Value.oneCell']) ?_))
      refine bodyPost_ret (results_cell_row rfl _ _ (N + 2) 48 _ _ _ rfl (hK.bQ.row _) Tryz.underlying48 rfl (by kernel_rfl)) rfl ?_
      exact ⟨_, rfl, Row.down (Row.same hRw fun b hb => setRow_other _ _ _ _ (by cases hb; show g ≠ N + 2; omega)) (by omega), Below.setRow hK.hB (by omega) _⟩
end Go.Proofs.YtgmhhocpdfdplaaGreat
/- An image turned, in plain words: it is right, of the same size; a turn behind a turn is one turn. -/
namespace Go.Proofs.YtgmhhocpdfdplaaGreat
open Go.RowKit
set_option maxRecDepth 100000
def flipK (k : Int) (c : CompArg) : CompArg := ⟨c.id, (Tu.sides k c.h c.v).1, (Tu.sides k c.h c.v).2, c.q, (Tu.sides k c.c c.r).1, (Tu.sides k c.c c.r).2, .slice none 0 0, flipB k c.bs c.c.toNat c.r.toNat (Tu.sides k c.c c.r).1.toNat c.bs.length⟩
def flipQ (k : Int) (q : QuantArg) : QuantArg := ⟨q.at_, Tu.table k q.q⟩
def flipI (x : ImgArg) (k : Int) : ImgArg := ⟨(Tu.sides k x.w x.h).1, (Tu.sides k x.w x.h).2, .slice none 0 0, .slice none 0 0, .slice none 0 0, x.cs.map (flipK k), x.qs.map (flipQ k), x.ts⟩
/-- What Image yields. -/
def flipD (x : ImgArg) (k : Int) : ImgArg := if mayE x k = 0 then flipI x k else zeroI
theorem mayE_ok {x : ImgArg} {k : Int} (h : mayE x k = 0) : RightI x ∧ 0 ≤ k ∧ k < 8 := by
  unfold mayE at h
  split at h
  · rename_i h1
    split at h
    · rename_i h2; exact ⟨right_of_imgE h1, h2⟩
    · cases h
  · rename_i h1; exact absurd h h1
def swapP (p : Int × Int) : Int × Int := (p.2, p.1)
theorem hA_swap (qs : List (Int × Int)) : hA (qs.map swapP) = vA qs := by
  funext k
  unfold hA vA
  simp only [List.getD_eq_getElem?_getD, List.getElem?_map]
  cases qs[k]? <;> rfl
theorem vA_swap (qs : List (Int × Int)) : vA (qs.map swapP) = hA qs := by
  funext k
  unfold hA vA
  simp only [List.getD_eq_getElem?_getD, List.getElem?_map]
  cases qs[k]? <;> rfl
theorem partsOf_swap (ps : List (Int × Int)) : partsOf (ps.map swapP) = (partsOf ps).map swapP := by
  unfold partsOf
  rw [List.length_map]
  split <;> rfl
theorem hhN_swap (qs : List (Int × Int)) : hhN (qs.map swapP) = vvN qs := by unfold hhN vvN; rw [hA_swap, List.length_map]
theorem vvN_swap (qs : List (Int × Int)) : vvN (qs.map swapP) = hhN qs := by unfold hhN vvN; rw [vA_swap, List.length_map]
theorem acN_swap (y : Int) (qs : List (Int × Int)) : acN y (qs.map swapP) = dnN y qs := by unfold acN dnN; rw [hhN_swap]
theorem dnN_swap (y : Int) (qs : List (Int × Int)) : dnN y (qs.map swapP) = acN y qs := by unfold acN dnN; rw [vvN_swap]
theorem anyBad_swap (ps : List (Int × Int)) : anyBad (ps.map swapP) = anyBad ps := by
  unfold anyBad
  rw [List.length_map]
  congr 1
  funext k
  simp only [List.getD_eq_getElem?_getD, List.getElem?_map]
  cases ps[k]? with
  | none => rfl
  | some p => simp only [Option.map_some, Option.getD_some, badP, swapP]; exact Bool.or_comm _ _
theorem newE_swap {x y : Int} {ps : List (Int × Int)} (h : newE x y ps = 0) : newE y x (ps.map swapP) = 0 := by
  have hr : rightE x y ps = 0 := by
    unfold newE at h
    split at h
    · exact h
    · rename_i h5; exact Decidable.not_not.1 h5
  have hr' : rightE y x (ps.map swapP) = 0 := by
    unfold rightE at hr ⊢
    rw [List.length_map, anyBad_swap]
    split at hr
    · cases hr
    · rename_i h6
      split at hr
      · cases hr
      · rename_i h7
        rw [if_neg (by rintro (h | h | h | h); exact h6 (.inr (.inl h)); exact h6 (.inl h); exact h6 (.inr (.inr (.inl h))); exact h6 (.inr (.inr (.inr h)))), if_neg (by omega)]
        exact hr
  have e1 : iuN ((partsOf ps).map swapP) = iuN (partsOf ps) := by
    unfold iuN
    rw [hA_swap, vA_swap, List.length_map]
    congr 1
    funext k
    exact Int.mul_comm _ _
  have e2 : totN y x ((partsOf ps).map swapP) = totN x y (partsOf ps) := by
    unfold totN
    rw [hA_swap, vA_swap, acN_swap, dnN_swap, List.length_map]
    congr 1
    funext k
    exact Int.mul_comm _ _
  unfold newE at h ⊢
  rw [if_neg (by rw [hr]; simp)] at h
  rw [if_neg (by rw [hr']; simp), partsOf_swap, e1, e2, List.length_map]
  exact h
theorem sides_mul {k : Int} (a b : Int) (h0 : 0 ≤ k) (h8 : k < 8) : (Tu.sides k a b).1 * (Tu.sides k a b).2 = a * b := by
  by_cases h4 : 4 ≤ k
  · rw [sides_hiE _ _ h4 h8]; exact Int.mul_comm _ _
  · rw [sides_loE _ _ h0 h4]
theorem psOf_flip_hi {k : Int} (cs : List CompArg) (h4 : 4 ≤ k) (h8 : k < 8) : psOf (cs.map (flipK k)) = (psOf cs).map swapP := by
  unfold psOf
  rw [List.map_map, List.map_map]
  apply List.map_congr_left
  intro c _
  simp only [Function.comp, flipK, sides_hiE _ _ h4 h8, swapP]
theorem psOf_flip_lo {k : Int} (cs : List CompArg) (h0 : 0 ≤ k) (h4 : ¬ 4 ≤ k) : psOf (cs.map (flipK k)) = psOf cs := by
  unfold psOf
  rw [List.map_map]
  apply List.map_congr_left
  intro c _
  simp only [Function.comp, flipK, sides_loE _ _ h0 h4]
theorem flipK_getD (k : Int) (cs : List CompArg) (i : Nat) : ((cs.map (flipK k)).getD i noComp).id = (cs.getD i noComp).id ∧ ((cs.map (flipK k)).getD i noComp).q = (cs.getD i noComp).q := by
  simp only [List.getD_eq_getElem?_getD, List.getElem?_map]
  cases cs[i]? <;> exact ⟨rfl, rfl⟩
theorem flipQ_getD (k : Int) (qs : List QuantArg) (i : Nat) : ((qs.map (flipQ k)).getD i noQuant).at_ = (qs.getD i noQuant).at_ := by
  simp only [List.getD_eq_getElem?_getD, List.getElem?_map]
  cases qs[i]? <;> rfl
theorem compsE_flip (k : Int) (cs : List CompArg) : compsE (cs.map (flipK k)) = compsE cs := by
  unfold compsE compE
  simp only [(flipK_getD k cs _).1, (flipK_getD k cs _).2, List.length_map]
theorem anyF_nope {p : Nat → Bool} : ∀ {f i : Nat}, (∀ k, i ≤ k → k < i + f → p k = false) → anyF p f i = false
  | 0, _, _ => rfl
  | f + 1, i, h => by
    rw [anyF_go p f i (h i (Nat.le_refl _) (by omega))]
    exact anyF_nope (fun k h1 h2 => h k (by omega) (by omega))
theorem zeroQ_flip {k : Int} (hk : 0 ≤ k ∧ k < 8) {q : QuantArg} (h : zeroQ q = false) : zeroQ (flipQ k q) = false := by
  unfold zeroQ at h ⊢
  refine anyF_nope fun j _ hj => ?_
  have hj : j < 64 := by omega
  have h2 := anyF_all 64 0 h (Tu.perm k j) (Nat.zero_le _) (by have := Tu.perm_lt k j hj; omega)
  show decide ((Tu.table k q.q).getD j 0 = 0) = false
  rw [Tu.table_get k hk.1 hk.2 _ j hj]
  exact h2
theorem tablesE_flip {x : ImgArg} {k : Int} (hk : 0 ≤ k ∧ k < 8) (h : tablesE x = 0) : tablesE (flipI x k) = 0 := by
  have hq : quantsE x = 0 ∧ compsTE x = 0 := by
    unfold tablesE at h
    split at h
    · rename_i h1; exact ⟨h1, h⟩
    · rename_i h1; exact absurd h h1
  have eu : ∀ y, usedQ (x.cs.map (flipK k)) y = usedQ x.cs y := fun y => by
    unfold usedQ
    simp only [(flipK_getD k x.cs _).2, List.length_map]
  have et : ∀ y, tabI (x.qs.map (flipQ k)) y = tabI x.qs y := fun y => by
    unfold tabI
    simp only [flipQ_getD, List.length_map]
  have h1 : quantsE (flipI x k) = 0 := by
    unfold quantsE flipI
    simp only [List.length_map]
    refine firstE_none fun i _ hi => ?_
    have hi : i < x.qs.length := by omega
    have h2 := firstE_all hq.1 i (Nat.zero_le _) (by omega)
    simp only [quantE] at h2 ⊢
    split at h2
    · rename_i h3
      have h4 := h3.2.1
      rw [quant_getD hi] at h4
      have e5 : (x.qs.map (flipQ k)).getD i noQuant = flipQ k (x.qs[i]'hi) := by simp [List.getD_eq_getElem?_getD, hi]
      rw [if_pos]
      rw [eu, flipQ_getD]
      refine ⟨?_, ?_, h3.2.2⟩
      · have := h3.1
        unfold risesB at this ⊢
        rw [flipQ_getD]
        exact this
      · rw [e5]; exact zeroQ_flip hk h4
    · cases h2
  unfold tablesE
  rw [if_pos h1]
  have h5 := hq.2
  unfold compsTE compTE flipI at *
  simp only [(flipK_getD k x.cs _).2, List.length_map, et]
  exact h5
theorem allOk_all {p : Nat → Bool} : ∀ n i, allOk p n i = true → ∀ k, i ≤ k → k < i + n → p k = true
  | 0, _, _, k, h1, h2 => absurd h2 (by omega)
  | n + 1, i, h, k, h1, h2 => by
    simp only [allOk, Bool.and_eq_true] at h
    by_cases hk : k = i
    · subst hk; exact h.1
    · exact allOk_all n (i + 1) h.2 k (by omega) (by omega)
theorem allOk_of {p : Nat → Bool} : ∀ n i, (∀ k, i ≤ k → k < i + n → p k = true) → allOk p n i = true
  | 0, _, _ => rfl
  | n + 1, i, h => by
    simp only [allOk, Bool.and_eq_true]
    exact ⟨h i (Nat.le_refl _) (by omega), allOk_of n (i + 1) fun k h1 h2 => h k (by omega) (by omega)⟩
theorem ranged_flip {k : Int} (hk : 0 ≤ k ∧ k < 8) {b : List Int} (hl : b.length = 64) (h : rangedB b = true) : rangedB (Tu.block k b) = true := by
  unfold rangedB at h ⊢
  rw [Bool.and_eq_true, decide_eq_true_eq] at h ⊢
  have hg := fun j hj => Tu.block_get k hk.1 hk.2 b hl j hj
  have h0 := hg 0 (by omega)
  have s0 : Tu.sgn k 0 = false := by unfold Tu.sgn; simp
  have p0 : Tu.perm k 0 = 0 := by unfold Tu.perm; split <;> rfl
  rw [s0, p0] at h0
  rw [h0]
  refine ⟨h.1, allOk_of _ _ fun j _ hj => ?_⟩
  rw [hg (j + 1) (by omega)]
  have hp : 0 < Tu.perm k (j + 1) ∧ Tu.perm k (j + 1) < 64 := by unfold Tu.perm; split <;> omega
  have h2 := allOk_all _ _ h.2 (Tu.perm k (j + 1) - 1) (Nat.zero_le _) (by omega)
  rw [show Tu.perm k (j + 1) - 1 + 1 = Tu.perm k (j + 1) by omega] at h2
  generalize b.getD (Tu.perm k (j + 1)) 0 = y at *
  unfold okC at h2 ⊢
  rw [decide_eq_true_eq] at h2 ⊢
  unfold Tu.neg
  split
  · rw [Tu.wrap16_eq]; split <;> omega
  · exact h2
theorem qsP_hi (x : ImgArg) {k : Int} (h4 : 4 ≤ k) (h8 : k < 8) : qsP (flipI x k) = (qsP x).map swapP := by
  unfold qsP flipI
  simp only
  rw [psOf_flip_hi _ h4 h8, partsOf_swap]
theorem qsP_lo (x : ImgArg) {k : Int} (h0 : 0 ≤ k) (h4 : ¬ 4 ≤ k) : qsP (flipI x k) = qsP x := by
  unfold qsP flipI
  simp only
  rw [psOf_flip_lo _ h0 h4]
/-- The frame's numbers of a turned image. -/
theorem flip_nums (x : ImgArg) {k : Int} (h0 : 0 ≤ k) (h8 : k < 8) :
    ((flipI x k).w, (flipI x k).h) = Tu.sides k x.w x.h ∧ (uwI (flipI x k), uhI (flipI x k)) = Tu.sides k (uwI x) (uhI x) ∧ (acI (flipI x k), dnI (flipI x k)) = Tu.sides k (acI x) (dnI x) ∧ ∀ i, (pH (flipI x k) i, pV (flipI x k) i) = Tu.sides k (pH x i) (pV x i) := by
  by_cases h4 : 4 ≤ k
  · have hq := qsP_hi x h4 h8
    have hw : (flipI x k).w = x.h ∧ (flipI x k).h = x.w := by unfold flipI; rw [sides_hiE _ _ h4 h8]; exact ⟨rfl, rfl⟩
    refine ⟨by rw [sides_hiE _ _ h4 h8, hw.1, hw.2], ?_, ?_, fun i => ?_⟩
    · rw [sides_hiE _ _ h4 h8]; unfold uwI uhI; rw [hq, hhN_swap, vvN_swap]
    · rw [sides_hiE _ _ h4 h8]; unfold acI dnI; rw [hq, acN_swap, dnN_swap, hw.1, hw.2]
    · rw [sides_hiE _ _ h4 h8]; unfold pH pV; rw [hq, hA_swap, vA_swap]
  · have hq := qsP_lo x h0 h4
    have hw : (flipI x k).w = x.w ∧ (flipI x k).h = x.h := by unfold flipI; rw [sides_loE _ _ h0 h4]; exact ⟨rfl, rfl⟩
    refine ⟨by rw [sides_loE _ _ h0 h4, hw.1, hw.2], ?_, ?_, fun i => ?_⟩
    · rw [sides_loE _ _ h0 h4]; unfold uwI uhI; rw [hq]
    · rw [sides_loE _ _ h0 h4]; unfold acI dnI; rw [hq, hw.1, hw.2]
    · rw [sides_loE _ _ h0 h4]; unfold pH pV; rw [hq]
theorem sides_prod {k : Int} (a b c d : Int) (h0 : 0 ≤ k) (h8 : k < 8) : Tu.sides k (a * b) (c * d) = ((Tu.sides k a c).1 * (Tu.sides k b d).1, (Tu.sides k a c).2 * (Tu.sides k b d).2) := by
  by_cases h4 : 4 ≤ k
  · rw [sides_hiE _ _ h4 h8, sides_hiE _ _ h4 h8, sides_hiE _ _ h4 h8]
  · rw [sides_loE _ _ h0 h4, sides_loE _ _ h0 h4, sides_loE _ _ h0 h4]
theorem src_idx {k : Int} {cn rn cols rows : Nat} (h0 : 0 ≤ k) (h8 : k < 8) (hsd : Tu.sides k cn rn = ((cols : Int), (rows : Int))) {j : Nat} (hj : j < cols * rows) : (srcN k cn rn cols j).1 * cn + (srcN k cn rn cols j).2 < cn * rn := by
  obtain ⟨h1, h2, -⟩ := src_in h0 h8 hsd hj
  generalize srcN k cn rn cols j = s at *
  have : (s.1 + 1) * cn ≤ rn * cn := Nat.mul_le_mul_right _ h1
  rw [Nat.add_mul, Nat.one_mul] at this
  rw [Nat.mul_comm cn rn]
  omega
theorem flipB_at (k : Int) (bs : List (List Int)) (cn rn cols n : Nat) {j : Nat} (hj : j < n) : Pl.blk (flipB k bs cn rn cols n) j = Tu.block k (Pl.blk bs ((srcN k cn rn cols j).1 * cn + (srcN k cn rn cols j).2)) := by
  have hl : j < (flipB k bs cn rn cols n).length := by rw [flipB_len]; exact hj
  rw [← Pl.blk_eq hl]
  simp [flipB, movB]
theorem flip_right {x : ImgArg} {k : Int} (h : mayE x k = 0) (hp : ∀ c ∈ x.cs, Right64 c.bs) : RightI (flipI x k) := by
  obtain ⟨hR, h0, h8⟩ := mayE_ok h
  obtain ⟨-, -, hn3, hn4⟩ := flip_nums x h0 h8
  have hfr : frE (flipI x k) = 0 := by
    unfold frE flipI
    simp only
    by_cases h4 : 4 ≤ k
    · rw [sides_hiE _ _ h4 h8, psOf_flip_hi _ h4 h8]; exact newE_swap hR.fr
    · rw [sides_loE _ _ h0 h4, psOf_flip_lo _ h0 h4]; exact hR.fr
  have hlen : (flipI x k).cs.length = x.cs.length := by simp [flipI]
  refine ⟨hfr, (compsE_flip k x.cs).trans hR.co, tablesE_flip ⟨h0, h8⟩ hR.ta, ?_, ?_, hR.tg⟩
  · refine firstE_none fun i _ hi => ?_
    have hy : i < (flipI x k).cs.length := by omega
    have hi : i < x.cs.length := by omega
    rw [frG_at _ hy, comp_getD hy]
    obtain ⟨p1, p2, p3⟩ := hR.plane hi
    obtain ⟨cn, rn, cols, rows, K⟩ := natK ⟨h0, h8⟩ p1
    have e : (flipI x k).cs[i]'hy = flipK k (x.cs[i]'hi) := by simp [flipI]
    rw [e]
    have es : Tu.sides k (x.cs[i]'hi).c (x.cs[i]'hi).r = ((cols : Int), (rows : Int)) := by rw [K.hc, K.hr]; exact K.hsd
    have es2 := es
    rw [p2, p3, sides_prod _ _ _ _ h0 h8, ← hn3, ← hn4] at es2
    simp only [Prod.mk.injEq] at es2
    refine planeE_ok ?_ ?_ ?_
    · unfold flipK
      simp only [flipB_len]
      rw [es]
      simp only
      unfold Pl.right
      rw [K.z2, K.n, ← K.m]
      simp
    · unfold flipK gridP
      simp only
      rw [es]
      exact es2.1.symm
    · unfold flipK gridP
      simp only
      rw [es]
      exact es2.2.symm
  · refine firstE_none fun i _ hi => ?_
    have hy : i < (flipI x k).cs.length := by omega
    have hi : i < x.cs.length := by omega
    show compBE ((flipI x k).cs.getD i noComp) = 0
    rw [comp_getD hy]
    have e : (flipI x k).cs[i]'hy = flipK k (x.cs[i]'hi) := by simp [flipI]
    rw [e]
    obtain ⟨p1, p2, p3⟩ := hR.plane hi
    obtain ⟨cn, rn, cols, rows, K⟩ := natK ⟨h0, h8⟩ p1
    have hpi := hp _ (List.getElem_mem hi)
    have hra := hR.ranged _ (List.getElem_mem hi)
    have eb : (flipK k (x.cs[i]'hi)).bs = flipB k (x.cs[i]'hi).bs cn rn cols (x.cs[i]'hi).bs.length := by
      unfold flipK
      simp only
      rw [K.hc, K.hr, K.hsd]
      rfl
    refine firstE_none fun j _ hj => ?_
    rw [eb, flipB_len] at hj
    have hj : j < (x.cs[i]'hi).bs.length := by omega
    show blockE ((flipK k (x.cs[i]'hi)).bs.getD j []) = 0
    have hj2 : j < cols * rows := by rw [K.m, ← K.n]; exact hj
    have hx := src_idx h0 h8 K.hsd hj2
    rw [← K.n] at hx
    have ev : (flipK k (x.cs[i]'hi)).bs.getD j [] = Tu.block k ((x.cs[i]'hi).bs[(srcN k cn rn cols j).1 * cn + (srcN k cn rn cols j).2]'hx) := by
      have hjl : j < (flipB k (x.cs[i]'hi).bs cn rn cols (x.cs[i]'hi).bs.length).length := by rw [flipB_len]; exact hj
      have := flipB_at k (x.cs[i]'hi).bs cn rn cols (x.cs[i]'hi).bs.length hj
      rw [← Pl.blk_eq hx, ← Pl.blk_eq hjl] at this
      rw [eb, List.getD_eq_getElem?_getD, List.getElem?_eq_getElem hjl, Option.getD_some, this]
    rw [ev]
    unfold blockE
    rw [if_pos (ranged_flip ⟨h0, h8⟩ (hpi _ (List.getElem_mem hx)) (hra _ (List.getElem_mem hx)))]
theorem flip_size (x : ImgArg) (k : Int) : sizeN (flipI x k) = sizeN x := by
  have e1 : blN (flipI x k) = blN x := by
    funext i
    unfold blN flipI
    simp only [List.getD_eq_getElem?_getD, List.getElem?_map]
    cases x.cs[i]? with
    | none => rfl
    | some c => simp only [Option.map_some, Option.getD_some]; exact flipB_len _ _ _ _ _ _
  unfold sizeN
  rw [e1]
  simp only [flipI, List.length_map]
  rfl
theorem flip_few {x : ImgArg} (hf : FewOk x) (k : Int) : FewOk (flipI x k) := by
  refine ⟨by simpa [flipI] using hf.c20, by simpa [flipI] using hf.q20, hf.t100, fun c hc => ?_, hf.t140⟩
  simp only [flipI, List.mem_map] at hc
  obtain ⟨d, hd, rfl⟩ := hc
  show (flipB _ _ _ _ _ _).length ≤ _
  rw [flipB_len]
  exact hf.b300 d hd
theorem cd_flipK {a b : CompArg} (h : cd a = cd b) (k : Int) : cd (flipK k a) = cd (flipK k b) := by
  obtain ⟨a0, a1, a2, a3, a4, a5, a6, a7⟩ := a
  obtain ⟨b0, b1, b2, b3, b4, b5, b6, b7⟩ := b
  simp only [cd, Prod.mk.injEq] at h
  obtain ⟨⟨rfl, rfl, rfl, rfl⟩, rfl, rfl, rfl⟩ := h
  rfl
theorem map_cd_of {f g : CompArg → CompArg} {xs ys : List CompArg} (hl : ys.length = xs.length) (h : ∀ i (hx : i < xs.length) (hy : i < ys.length), cd (g (ys[i]'hy)) = cd (f (xs[i]'hx))) : (ys.map g).map cd = (xs.map f).map cd := by
  apply List.ext_getElem
  · simp [hl]
  · intro i h1 h2
    simp only [List.getElem_map]
    exact h i (by simpa using h2) (by simpa using h1)
theorem map_cd_at {xs ys : List CompArg} (h : ys.map cd = xs.map cd) (i : Nat) (hx : i < xs.length) (hy : i < ys.length) : cd (ys[i]'hy) = cd (xs[i]'hx) := by
  have := congrArg (fun l => l[i]?) h
  simpa [hx, hy] using this
theorem SameD.flip {x y : ImgArg} (h : SameD x y) (k : Int) : SameD (flipI x k) (flipI y k) := by
  refine ⟨by unfold flipI; simp only; rw [h.w, h.h], by unfold flipI; simp only; rw [h.w, h.h], ?_, by unfold flipI; simp only; rw [h.qs], by unfold flipI; simp only; rw [h.ts]⟩
  unfold flipI
  simp only
  exact map_cd_of h.len fun i hx hy => cd_flipK (map_cd_at h.cs i hx hy) k
theorem SameD.may {x y : ImgArg} (h : SameD x y) (k : Int) : mayE y k = mayE x k := by
  unfold mayE uwI uhI
  rw [h.err, h.w, h.h, h.qsP]
theorem flipB_two {i j : Int} (i0 : 0 ≤ i) (i8 : i < 8) (j0 : 0 ≤ j) (j8 : j < 8) {cn rn cols rows cols2 rows2 : Nat} (h1 : Tu.sides i cn rn = ((cols : Int), (rows : Int))) (h2 : Tu.sides j cols rows = ((cols2 : Int), (rows2 : Int)))
    {bs : List (List Int)} (hn : bs.length = cn * rn) (hm : cols * rows = cn * rn) (hm2 : cols2 * rows2 = cn * rn) (h64 : Right64 bs) (hw : ∀ b ∈ bs, Tu.In16 b) :
    flipB j (flipB i bs cn rn cols bs.length) cols rows cols2 bs.length = flipB (Tu.then_ i j) bs cn rn cols2 bs.length := by
  apply List.ext_getElem
  · rw [flipB_len, flipB_len]
  · intro m q1 q2
    rw [flipB_len] at q1
    have ha := flipB_at j (flipB i bs cn rn cols bs.length) cols rows cols2 bs.length q1
    have hb := flipB_at (Tu.then_ i j) bs cn rn cols2 bs.length q1
    rw [← Pl.blk_eq (by rw [flipB_len]; exact q1)] at ha hb
    rw [ha, hb]
    have qm : m < cols2 * rows2 := by rw [hm2, ← hn]; exact q1
    obtain ⟨s1, s2, s3⟩ := src_in j0 j8 h2 qm
    have sx := src_idx j0 j8 h2 qm
    generalize srcN j cols rows cols2 m = s at *
    obtain ⟨u, v⟩ := s
    simp only at s1 s2 s3 sx ⊢
    rw [flipB_at i bs cn rn cols bs.length (by rw [hn, ← hm]; exact sx)]
    have d1 : (u * cols + v) / cols = u := by rw [Nat.mul_comm, Nat.mul_add_div (by omega), Nat.div_eq_of_lt s2, Nat.add_zero]
    have d2 : (u * cols + v) % cols = v := by rw [Nat.mul_comm, Nat.mul_add_mod, Nat.mod_eq_of_lt s2]
    have hs : srcN i cn rn cols (u * cols + v) = srcN (Tu.then_ i j) cn rn cols2 m := by
      have hp := Tu.places i j cn rn ((m : Int) / (cols2 : Int)) ((m : Int) % (cols2 : Int)) i0 i8 j0 j8
      rw [h1] at hp
      simp only at hp
      rw [s3] at hp
      simp only at hp
      unfold srcN
      rw [← hp, ← Int.natCast_ediv, ← Int.natCast_emod, d1, d2]
    have ht := src_idx i0 i8 h1 (j := u * cols + v) sx
    rw [hs] at ht ⊢
    rw [← hn] at ht
    rw [← Pl.blk_eq ht]
    exact Tu.comp i j i0 i8 j0 j8 _ (h64 _ (List.getElem_mem ht)) (hw _ (List.getElem_mem ht))
theorem in16_of {b : List Int} (h : ∀ y ∈ b, (Lit.int .i16 y).wf = true) : Tu.In16 b := fun i => by
  by_cases hi : i < b.length
  · rw [List.getD_eq_getElem?_getD, List.getElem?_eq_getElem hi]
    exact (wf16 _).1 (h _ (List.getElem_mem hi))
  · rw [List.getD_eq_getElem?_getD, List.getElem?_eq_none (by omega)]; simp
/-- A turn behind a turn. -/
theorem flip_two {x : ImgArg} (hR : RightI x) {i j : Int} (i0 : 0 ≤ i) (i8 : i < 8) (j0 : 0 ≤ j) (j8 : j < 8) (hp : ∀ c ∈ x.cs, Right64 c.bs ∧ ∀ b ∈ c.bs, ∀ y ∈ b, (Lit.int .i16 y).wf = true) (hq : ∀ q ∈ x.qs, q.q.length = 64) :
    SameD (flipI x (Tu.then_ i j)) (flipI (flipI x i) j) := by
  have hsc := fun a b => Tu.sides_comp i j a b i0 i8 j0 j8
  refine ⟨?_, ?_, ?_, ?_, rfl⟩
  · show (Tu.sides j (Tu.sides i x.w x.h).1 (Tu.sides i x.w x.h).2).1 = _
    rw [hsc]; rfl
  · show (Tu.sides j (Tu.sides i x.w x.h).1 (Tu.sides i x.w x.h).2).2 = _
    rw [hsc]; rfl
  · show (((x.cs.map (flipK i)).map (flipK j)).map cd) = (x.cs.map (flipK (Tu.then_ i j))).map cd
    refine map_cd_of (by simp) fun m hx hy => ?_
    rw [List.getElem_map]
    obtain ⟨p1, -, -⟩ := hR.plane hx
    obtain ⟨cn, rn, cols, rows, K⟩ := natK ⟨i0, i8⟩ p1
    have hpm := hp _ (List.getElem_mem hx)
    generalize x.cs[m]'hx = c at *
    obtain ⟨c2, r2, h2⟩ : ∃ c2 r2 : Nat, Tu.sides j cols rows = ((c2 : Int), (r2 : Int)) := by
      by_cases h4 : 4 ≤ j
      · exact ⟨rows, cols, sides_hiE _ _ h4 j8⟩
      · exact ⟨cols, rows, sides_loE _ _ j0 h4⟩
    have z3 := sized_sides j0 j8 h2 K.z2
    have ht : Tu.sides (Tu.then_ i j) cn rn = ((c2 : Int), (r2 : Int)) := by rw [← hsc, K.hsd]; exact h2
    have hb := flipB_two i0 i8 j0 j8 K.hsd h2 K.n K.m (z3.2.trans K.m) hpm.1 (fun b hb => in16_of (hpm.2 b hb))
    unfold cd flipK
    simp only [flipB_len]
    rw [hsc, hsc, K.hc, K.hr, ht, K.hsd]
    simp only [Int.toNat_natCast]
    rw [hb]
  · show (x.qs.map (flipQ i)).map (flipQ j) = x.qs.map (flipQ (Tu.then_ i j))
    rw [List.map_map]
    apply List.map_congr_left
    intro q hqm
    simp only [Function.comp, flipQ]
    rw [Tu.tcomp i j i0 i8 j0 j8 _ (hq q hqm)]
theorem flipB_zero {cn rn : Nat} {bs : List (List Int)} (hn : bs.length = cn * rn) (h64 : Right64 bs) : flipB 0 bs cn rn cn bs.length = bs := by
  apply List.ext_getElem
  · rw [flipB_len]
  · intro m q1 q2
    have hb := flipB_at 0 bs cn rn cn bs.length q2
    rw [← Pl.blk_eq q1] at hb
    rw [hb]
    have hc : 0 < cn := Nat.pos_of_ne_zero fun e => by rw [hn, e, Nat.zero_mul] at q2; omega
    have e : (srcN 0 cn rn cn m).1 * cn + (srcN 0 cn rn cn m).2 = m := by
      unfold srcN Tu.from_
      simp only [Int.reduceLT, and_true, Int.le_refl, if_true]
      rw [if_neg (by omega), if_neg (by omega), if_neg (by omega), ← Int.natCast_ediv, ← Int.natCast_emod]
      simp only [Int.toNat_natCast]
      have := Nat.div_add_mod m cn
      rw [Nat.mul_comm] at this
      exact this
    rw [e, ← Pl.blk_eq q2]
    exact Tu.block_zero _ (h64 _ (List.getElem_mem q2))
theorem flip_zero {x : ImgArg} (hR : RightI x) (hp : ∀ c ∈ x.cs, Right64 c.bs) : SameD x (flipI x 0) := by
  have hs : ∀ a b, Tu.sides 0 a b = (a, b) := fun a b => sides_loE a b (by omega) (by omega)
  refine ⟨by unfold flipI; rw [hs], by unfold flipI; rw [hs], ?_, ?_, rfl⟩
  · have h := map_cd_of (f := id) (g := flipK 0) (xs := x.cs) (ys := x.cs) rfl fun m hx hy => by
      obtain ⟨p1, -, -⟩ := hR.plane hx
      obtain ⟨cn, rn, cols, rows, K⟩ := natK (k := 0) ⟨by omega, by omega⟩ p1
      have hpm := hp _ (List.getElem_mem hx)
      generalize x.cs[m]'hx = c at *
      unfold cd flipK
      simp only [id, hs]
      rw [K.hc, K.hr]
      simp only [Int.toNat_natCast]
      rw [flipB_zero K.n hpm]
    rw [List.map_id] at h
    exact h
  · show x.qs.map (flipQ 0) = x.qs
    have : flipQ 0 = id := by
      funext q
      unfold flipQ
      rw [Tu.table_zero]
      rfl
    rw [this, List.map_id]
theorem mayE_right {x : ImgArg} (hR : RightI x) {k : Int} (h0 : 0 ≤ k) (h8 : k < 8) : mayE x k = if (Tu.mirA k = true ∧ x.w % uwI x ≠ 0) ∨ (Tu.mirD k = true ∧ x.h % uhI x ≠ 0) then 13 else 0 := by
  unfold mayE
  rw [if_pos hR.imgE, if_pos ⟨h0, h8⟩]
theorem back8 {i : Int} (i0 : 0 ≤ i) (i8 : i < 8) : 0 ≤ Tu.back i ∧ Tu.back i < 8 ∧ Tu.then_ i (Tu.back i) = 0 := by
  have := Tu.group_fin ⟨i.toNat, by omega⟩ 0 0
  simp only [Int.toNat_of_nonneg i0] at this
  exact ⟨this.2.2.2.1, this.2.2.2.2.1, this.2.1⟩
/-- Back may be of what was turned. -/
theorem may_back {x : ImgArg} {i : Int} (h : mayE x i = 0) (hp : ∀ c ∈ x.cs, Right64 c.bs) : mayE (flipI x i) (Tu.back i) = 0 := by
  obtain ⟨hR, i0, i8⟩ := mayE_ok h
  obtain ⟨b0, b8, -⟩ := back8 i0 i8
  obtain ⟨n1, n2, -, -⟩ := flip_nums x i0 i8
  rw [mayE_right hR i0 i8] at h
  rw [mayE_right (flip_right (by rw [mayE_right hR i0 i8]; exact h) hp) b0 b8]
  by_cases h4 : 4 ≤ i
  · rw [sides_hiE _ _ h4 i8] at n1 n2
    simp only [Prod.mk.injEq] at n1 n2
    rw [n1.1, n1.2, n2.1, n2.2]
    have ma : Tu.mirA (Tu.back i) = Tu.mirD i := by
      rcases (show i = 4 ∨ i = 5 ∨ i = 6 ∨ i = 7 by omega) with rfl | rfl | rfl | rfl <;> decide +kernel
    have md : Tu.mirD (Tu.back i) = Tu.mirA i := by
      rcases (show i = 4 ∨ i = 5 ∨ i = 6 ∨ i = 7 by omega) with rfl | rfl | rfl | rfl <;> decide +kernel
    rw [ma, md]
    split at h
    · cases h
    · rename_i h5
      rw [if_neg (fun h6 => h5 (h6.elim .inr .inl))]
  · rw [sides_loE _ _ i0 h4] at n1 n2
    simp only [Prod.mk.injEq] at n1 n2
    rw [n1.1, n1.2, n2.1, n2.2]
    have hb : Tu.back i = i := by unfold Tu.back; rw [if_neg h4]
    rw [hb]
    exact h
end Go.Proofs.YtgmhhocpdfdplaaGreat
/- Package flip: Image. -/
namespace Go.Proofs.YtgmhhocpdfdplaaGreat
open Go.RowKit
set_option maxRecDepth 100000
set_option maxHeartbeats 16000000
def shC (a0 a1 a2 a3 a4 a5 : Int) (n : Nat) (v : Value) : Prop := ∃ b cap, v = .agg #[.int .i64 a0, .int .i64 a1, .int .i64 a2, .int .i64 a3, .int .i64 a4, .int .i64 a5, .slice b n cap]
def fC (bs : List (List Int)) (v : Value) : Fact := fun lo hi w => ∃ u, (∃ a0 a1 a2 a3 a4 a5, v = .agg #[a0, a1, a2, a3, a4, a5, u]) ∧ Row w lo 66 64 u bs.length (bcells bs) ∧ ∀ g, u.ownBlock = some g → g < hi
theorem fC_mono (bs : List (List Int)) (v : Value) : (fC bs v).Mono := by
  intro lo hi w w' h hs hB
  obtain ⟨u, h1, h2, h3⟩ := h
  exact ⟨u, h1, h2.grow hB, h3⟩
theorem q_box_tab {W : World} {D : Nat} {q : QuantArg} (hB : Blk W D q.arr 40) (hq : q.Ok) {o : Oper} {act : Act} (y : Operand) (ho : o.op = .load 38 y) (hy : act.eval y = .pointer (some ⟨D, 1, none⟩)) :
    (execOp act.eval o).run Tryz.prog W = .ok (.value (.agg (ints .u16 q.q))) W := by
  have hl := hq.l64
  refine run_exec_load_at 38 y ho _ hy (q.q.map (Value.int .u16)) _ (fun j v hj => ?_) Tryz.underlying38 rfl (by rw [List.length_map, hl]; kernel_rfl)
  have hjl : j < 64 := by have := (List.getElem?_eq_some_iff.1 hj).1; rw [List.length_map] at this; omega
  have e : (⟨D, 1, none⟩ : Addr).add j = ⟨D, 1 + j, none⟩ := by unfold Addr.add; split <;> simp_all
  rw [e, hB.cell, Nat.add_comm 1 j, ← hj]
  simp [QuantArg.arr, QuantArg.cells]
/-- The first i turned. -/
def kTo (k : Int) (cs : List CompArg) (i : Nat) : List CompArg := (cs.take i).map (flipK k) ++ cs.drop i
def qTo (k : Int) (qs : List QuantArg) (i : Nat) : List QuantArg := (qs.take i).map (flipQ k) ++ qs.drop i
theorem kTo_len (k : Int) (cs : List CompArg) {i : Nat} (h : i ≤ cs.length) : (kTo k cs i).length = cs.length := by simp [kTo]; omega
theorem qTo_len (k : Int) (qs : List QuantArg) {i : Nat} (h : i ≤ qs.length) : (qTo k qs i).length = qs.length := by simp [qTo]; omega
theorem kTo_succ (k : Int) (cs : List CompArg) {i : Nat} (h : i < cs.length) : (kTo k cs i).set i (flipK k (cs[i]'h)) = kTo k cs (i + 1) := by
  unfold kTo
  have hl : ((cs.take i).map (flipK k)).length = i := by simp; omega
  rw [List.set_append_right _ _ (by omega), hl, Nat.sub_self, List.take_add_one, List.getElem?_eq_getElem h, List.drop_eq_getElem_cons h]
  simp only [List.set_cons_zero, Option.toList_some, List.map_append, List.map_cons, List.map_nil, List.append_assoc, List.cons_append, List.nil_append]
theorem qTo_succ (k : Int) (qs : List QuantArg) {i : Nat} (h : i < qs.length) : (qTo k qs i).set i (flipQ k (qs[i]'h)) = qTo k qs (i + 1) := by
  unfold qTo
  have hl : ((qs.take i).map (flipQ k)).length = i := by simp; omega
  rw [List.set_append_right _ _ (by omega), hl, Nat.sub_self, List.take_add_one, List.getElem?_eq_getElem h, List.drop_eq_getElem_cons h]
  simp only [List.set_cons_zero, Option.toList_some, List.map_append, List.map_cons, List.map_nil, List.append_assoc, List.cons_append, List.nil_append]
theorem qTo_at (k : Int) (qs : List QuantArg) {i : Nat} (h : i < qs.length) (h2 : i < (qTo k qs i).length) : (qTo k qs i)[i]'h2 = qs[i]'h := by
  have e : (qTo k qs i)[i]? = some (qs[i]'h) := by
    unfold qTo
    have hl : ((qs.take i).map (flipQ k)).length = i := by simp; omega
    rw [List.getElem?_append_right (by omega), hl, Nat.sub_self, List.getElem?_drop]
    simp [h]
  rw [List.getElem?_eq_getElem h2] at e
  exact Option.some.inj e
/-- The boxes: the image, the result, the copy. -/
structure FI (N P M0 : Nat) (x y : ImgArg) (w V0 V : World) : Prop where
  l : LI N x w V
  bQ : Blk V (N + 1) #[.int .i64 0, .int .i64 0, .slice none 0 0, .slice none 0 0, .slice none 0 0] 26
  bP : Blk V P #[.int .i64 y.w, .int .i64 y.h, y.cu, y.qu, y.tu] 26
  own : OwnL M0 y V0 V
theorem FI.below {N P M0 : Nat} {x y : ImgArg} {w V0 V V' : World} (q : FI N P M0 x y w V0 V) (hb : Below V.heap.size V V') : FI N P M0 x y w V0 V' :=
  ⟨q.l.below hb, q.bQ.below hb q.bQ.lt, q.bP.below hb q.bP.lt, q.own.below hb⟩
/-- The copy's own cells are written. -/
theorem FI.wrote {N P M0 : Nat} {x y y2 : ImgArg} {w V0 V : World} (q : FI N P M0 x y w V0 V) (HI : IsImg w x.val x) (hM : N + 1 < M0) {g o : Nat} {l : List Value} {e : TypeId} (hg : ∃ cur, Blk V g cur e) (he : e ≠ 26) (hlo : M0 ≤ g)
    (h : OwnL M0 y2 V0 (V.setCells g o l)) (h1 : y2.w = y.w) (h2 : y2.h = y.h) (h3 : y2.cu = y.cu) (h4 : y2.qu = y.qu) (h5 : y2.tu = y.tu) : FI N P M0 x y2 w V0 (V.setCells g o l) := by
  obtain ⟨cur, hg⟩ := hg
  have hap : ∀ {b : Nat} {cs : Array Value}, Blk V b cs 26 → b ≠ g := fun hb e' => by
    subst e'
    have := hb.symm.trans hg
    simp at this
    exact he this.2.symm
  have hCB : Below w.heap.size w (V.setCells g o l) := below_wrote q.l.hB (by have := q.l.hM; omega) _ _
  refine ⟨⟨q.l.bN.wrote (hap q.l.bN) _ _, HI.below hCB, q.l.hM, hCB⟩, q.bQ.wrote (hap q.bQ) _ _, ?_, h⟩
  rw [h1, h2, h3, h4, h5]
  exact q.bP.wrote (hap q.bP) _ _
theorem FI.sides {N P M0 : Nat} {x : ImgArg} {yw yh : Int} {ycu yqu ytu : Value} {ycs : List CompArg} {yqs : List QuantArg} {yts : List TagArg} {w V0 V : World} (q : FI N P M0 x ⟨yw, yh, ycu, yqu, ytu, ycs, yqs, yts⟩ w V0 V) (HI : IsImg w x.val x) (hP : N + 1 < P) (hM : N + 1 < M0) (hMP : M0 ≤ P) (a b : Int) :
    FI N P M0 x ⟨a, b, ycu, yqu, ytu, ycs, yqs, yts⟩ w V0 ((V.setCell ⟨P, 0, none⟩ (.int .i64 a)).setCell ⟨P, 1, none⟩ (.int .i64 b)) := by
  have hw := q.l.hM
  have hCB : Below w.heap.size w ((V.setCell ⟨P, 0, none⟩ (.int .i64 a)).setCell ⟨P, 1, none⟩ (.int .i64 b)) := (q.l.hB.setCell (by show w.heap.size ≤ P; omega) _).setCell (by show w.heap.size ≤ P; omega) _
  have n1 : ∀ v, N ≠ (⟨P, v, none⟩ : Addr).block := fun _ => by show N ≠ P; omega
  have n2 : ∀ v, N + 1 ≠ (⟨P, v, none⟩ : Addr).block := fun _ => by show N + 1 ≠ P; omega
  refine ⟨⟨(q.l.bN.other _ _ (n1 0)).other _ _ (n1 1), HI.below hCB, hw, hCB⟩, (q.bQ.other _ _ (n2 0)).other _ _ (n2 1), (q.bP.set 0 _).set 1 _, ?_⟩
  have hO := q.own
  have hz := hO.hN
  refine OwnL.at' (x := ⟨a, b, ycu, yqu, ytu, ycs, yqs, yts⟩) (N := M0) (w := V0) (W := V) ⟨hO.row, hO.pl, hO.q, hO.t, hO.qok, hO.tok, hO.hN, hO.hB, hO.hW⟩ _ (fun g cs t hg ht _ => ?_) V0 M0 hz (Nat.le_refl _) ((hO.hB.setCell hMP _).setCell hMP _) (by simpa using hO.hW)
  have hgP : g ≠ P := by
    rintro rfl
    have := hg.symm.trans q.bP
    simp at this
    exact (img_ne ht).1 this.2
  rw [heap_setCell_other _ _ _ _ hgP, heap_setCell_other _ _ _ _ hgP]
theorem flipK_ok {k : Int} {c : CompArg} (hk : 0 ≤ k ∧ k < 8) {w : World} (hc : c.Ok w) {cn rn cols rows : Nat} (K : NatK k c cn rn cols rows) (u : Value) (W : World)
    (ha : Ar W 64 u (flipK k c).bs.length (bcells (flipK k c).bs)) : CompArg.Ok W { flipK k c with u := u } := by
  have hs : ∀ a b : Int, (Lit.int .i64 a).wf = true → (Lit.int .i64 b).wf = true → (Lit.int .i64 (Tu.sides k a b).1).wf = true ∧ (Lit.int .i64 (Tu.sides k a b).2).wf = true := fun a b h1 h2 => by
    by_cases h4 : 4 ≤ k
    · rw [sides_hiE _ _ h4 hk.2]; exact ⟨h2, h1⟩
    · rw [sides_loE _ _ hk.1 h4]; exact ⟨h1, h2⟩
  have eb : ∀ b ∈ (flipK k c).bs, ∃ b0 ∈ c.bs, b = Tu.block k b0 := fun b hb => by
    obtain ⟨j, hj, rfl⟩ := List.getElem_of_mem hb
    have hj1 : j < c.bs.length := by simpa [flipK, flipB_len] using hj
    have ef : (flipK k c).bs = flipB k c.bs cn rn cols c.bs.length := by unfold flipK; simp only; rw [K.hc, K.hr, K.hsd]; rfl
    have hj2 : j < cols * rows := by rw [K.m, ← K.n]; exact hj1
    have hx := src_idx hk.1 hk.2 K.hsd hj2
    rw [← K.n] at hx
    have hat := flipB_at k c.bs cn rn cols c.bs.length hj1
    rw [← Pl.blk_eq hx, ← Pl.blk_eq (by rw [flipB_len]; exact hj1)] at hat
    refine ⟨_, List.getElem_mem hx, ?_⟩
    rw [← hat]
    simp only [ef]
  refine ⟨ha, fun b hb => ?_, fun b hb => ?_, hc.wid, (hs _ _ hc.wh hc.wv).1, (hs _ _ hc.wh hc.wv).2, hc.wq, (hs _ _ hc.wc hc.wr).1, (hs _ _ hc.wc hc.wr).2⟩
  · obtain ⟨b0, -, rfl⟩ := eb b hb
    exact Tu.block_len _ _
  · obtain ⟨b0, hb0, rfl⟩ := eb b hb
    exact block_wf (hc.wb b0 hb0) (hc.h64 b0 hb0)
theorem flip_comp_k (k : Int) (k0 : 0 ≤ k) (k8 : k < 8) (c : CompArg) (h : Pl.right c.c c.r c.bs.length = true) (W : World) (hok : c.Ok W) :
    Calls Tryz.prog 30 #[c.val, .int .i64 k] W fun r w' => (∃ v, r = .returned (.agg #[.int .i64 (flipK k c).id, .int .i64 (flipK k c).h, .int .i64 (flipK k c).v, .int .i64 (flipK k c).q, .int .i64 (flipK k c).c, .int .i64 (flipK k c).r, v]) ∧
      Row w' W.heap.size 66 64 v (flipK k c).bs.length (bcells (flipK k c).bs)) ∧ Below W.heap.size W w' := by
  obtain ⟨cn, rn, cols, rows, K⟩ := natK ⟨k0, k8⟩ h
  have ef : (flipK k c).bs = flipB k c.bs cn rn cols (cols * rows) := by
    unfold flipK
    simp only
    rw [K.hc, K.hr, K.hsd, K.n, ← K.m]
    rfl
  have el : (flipK k c).bs.length = cols * rows := by rw [ef, flipB_len]
  have e1 : (flipK k c).c = cols ∧ (flipK k c).r = rows := by
    unfold flipK
    simp only
    rw [K.hc, K.hr, K.hsd]
    exact ⟨rfl, rfl⟩
  rw [el, ef, e1.1, e1.2]
  refine (flip_comp k k0 k8 c cn rn cols rows K W hok).mono ?_
  rintro r w' ⟨v, rfl, hR, hb⟩
  exact ⟨⟨v, rfl, hR⟩, hb⟩
theorem flip_image (x : ImgArg) (hf : FewOk x) (k : Int) (w : World) (hI : IsImg w x.val x) :
    Calls Tryz.prog 11 #[x.val, .int .i64 k] w fun r w' => (∃ x1, ImgRes (flipD x k) (mayE x k) r w' x1) ∧ Below w.heap.size w w' := by
  have hpl := hI.planes
  have HPL := Lib.hid hpl
  have HI := Lib.hid hI
  have hc20 := hf.c20
  have hq20 := hf.q20
  obtain ⟨cb, ccap, hcu⟩ := hI.cs.len
  have HCU := Lib.hid hcu
  obtain ⟨qb0, qcap0, hqu⟩ := hI.qs.len
  have HQU := Lib.hid hqu
  have hL := LI.begin hI
  obtain ⟨N, hN⟩ : ∃ N, N = w.heap.size := ⟨_, rfl⟩
  rw [← hN] at hL
  have HN := Lib.hid hN
  have hcp := fun W h => img_copy x hf W h
  have hmay := fun W h => flip_may x hf k W h
  have HOK := Lib.hid (fun h0 : mayE x k = 0 => mayE_ok h0)
  obtain ⟨D, hD⟩ : ∃ D, flipD x k = D := ⟨_, rfl⟩
  rw [hD]
  unfold flipD at hD
  obtain ⟨E, hE⟩ : ∃ E, mayE x k = E := ⟨_, rfl⟩
  rw [hE] at hD hmay HOK ⊢
  have HD := Lib.hid hD
  unfold ImgArg.val at hcp hmay ⊢
  clear hN hI hcu hqu hD hE hpl
  go_enter Tryz.func11, Tryz.ntmps11
  go_upto_region 1 with fail
  refine wp_world (fun V => LI N x w V ∧ Blk V (N + 1) #[.int .i64 0, .int .i64 0, .slice none 0 0, .slice none 0 0, .slice none 0 0] 26) ⟨hL.below ((Below.refl _ _).alloc (Nat.le_refl _) _), Blk.new' _ _ _ (by rw [HN.out]; simp)⟩ ?_
  rw [← HN.out]
  clear hL
  rintro V ⟨hL, bQ⟩
  have hNN := hL.hM
  by_cases h0 : E = 0
  case neg =>
    have hD := HD.out
    rw [if_neg h0] at hD
    subst hD
    have t0 : (E != 0) = true := by simpa using h0
    clear HD h0 HOK hcp
    go_wp2_with (first
      | (refine wpList_load_row rfl 26 _ rfl N rfl 26 _ _ _ hL.bN Tryz.underlying26 rfl (by kernel_rfl) ?_)
      | (go_at_call 27; refine (hmay _ hL.img).mono ?_; rintro r w3 ⟨rfl, hb3⟩; replace hL := hL.below hb3; replace bQ := bQ.below hb3 bQ.lt)
      | (refine wpList_store_row rfl 26 _ _ rfl (N + 1) _ rfl rfl 26 _ bQ (by kernel_rfl) rfl (by simp [Value.oneCell']) ?_))
    refine bodyPost_ret (results_row_tmp rfl _ _ (N + 1) 26 _ _ rfl (bQ.row _) Tryz.underlying26 rfl (by kernel_rfl)) rfl ?_
    exact ⟨⟨zeroI, ⟨rfl, SameD.refl _, zeroI_own _, zeroI_few, by decide, by decide⟩⟩, Below.setRow hL.hB (by omega) _⟩
  subst h0
  obtain ⟨hR, k0, k8⟩ := HOK.out rfl
  have HR := Lib.hid hR
  have hD := HD.out
  rw [if_pos rfl] at hD
  have HD2 := Lib.hid hD
  have hsi := fun W => sides_any k x.w x.h W
  obtain ⟨sv, hsv⟩ : ∃ sv, Tu.sides k x.w x.h = sv := ⟨_, rfl⟩
  rw [hsv] at hsi
  obtain ⟨sw, sh⟩ := sv
  simp only at hsi
  have HSV := Lib.hid hsv
  clear HD hD HOK hR hsv
  go_upto_region 4 with (first
    | (refine wpList_load_row rfl 26 _ rfl N rfl 26 _ _ _ hL.bN Tryz.underlying26 rfl (by kernel_rfl) ?_)
    | (go_at_call 27; refine (hmay _ hL.img).mono ?_; rintro r w3 ⟨rfl, hb3⟩; replace hL := hL.below hb3; replace bQ := bQ.below hb3 bQ.lt))
  clear hmay hb3
  refine wp_world (fun V => LI N x w V ∧ Blk V (N + 1) #[.int .i64 0, .int .i64 0, .slice none 0 0, .slice none 0 0, .slice none 0 0] 26) ⟨hL, bQ⟩ ?_
  clear hL bQ
  clear V w3
  rintro V0 ⟨hL, bQ⟩
  go_upto_region 5 with (first
    | (refine wpList_load_row rfl 26 _ rfl N rfl 26 _ _ _ hL.bN Tryz.underlying26 rfl (by kernel_rfl) ?_)
    | (go_at_call 28; refine (hcp _ hL.img).mono ?_; rintro r w1 ⟨⟨yw, yh, ycu, yqu, ytu, ycs, yqs, yts⟩, rfl, hSD, hO⟩; obtain ⟨yb, ycap, rfl⟩ : ∃ b c, ycu = .slice b ycs.length c := hO.c.row.len; obtain ⟨qb, qcap, rfl⟩ : ∃ b c, yqu = .slice b yqs.length c := hO.q.len; obtain ⟨tb, tcap, rfl⟩ : ∃ b c, ytu = .slice b yts.length c := hO.t.len; obtain ⟨P, hP⟩ : ∃ P, P = w1.heap.size := ⟨_, rfl⟩; have HP := Lib.hid hP; clear hP)
    | (refine wpList_store_row rfl 26 _ _ rfl P _ (by rw [HP.out]; rfl) rfl 26 _ (Blk.new' _ _ _ HP.out) (by kernel_rfl) rfl (by simp [Value.oneCell']) ?_; simp only [Act.put]))
  have hb1 := hO.c.hB
  have hN1 := hO.c.hW
  have hbe : Below w1.heap.size w1 ((w1.alloc (.cells #[.int .i64 0, .int .i64 0, .slice none 0 0, .slice none 0 0, .slice none 0 0] 26)).setRow P #[.int .i64 yw, .int .i64 yh, .slice yb ycs.length ycap, .slice qb yqs.length qcap, .slice tb yts.length tcap]) := Below.setRow ((Below.refl _ _).alloc (Nat.le_refl _) _) (Nat.le_of_eq HP.out.symm) _
  try rw [← HP.out]
  refine wp_world (FI N P V0.heap.size x ⟨yw, yh, .slice yb ycs.length ycap, .slice qb yqs.length qcap, .slice tb yts.length tcap, ycs, yqs, yts⟩ w V0) ⟨(hL.below hb1).below hbe, (bQ.below hb1 bQ.lt).below hbe (Nat.lt_of_lt_of_le bQ.lt hN1), (Blk.new' _ _ _ HP.out).row _, hO.ownL.below hbe⟩ ?_
  have hM0 : N + 1 < V0.heap.size := bQ.lt
  have hMP : V0.heap.size ≤ P := by rw [HP.out]; exact hN1
  clear hbe hb1 hO hL bQ hcp HP hN1
  clear w1
  intro V1 hE
  obtain ⟨M0, hM0e⟩ : ∃ M0, M0 = V0.heap.size := ⟨_, rfl⟩
  rw [← hM0e] at hE hM0 hMP
  clear hM0e
  have hyl := hSD.len
  have hyq := hSD.qs
  have hyt := hSD.ts
  simp only at hyl hyq hyt
  have HCD := Lib.hid hSD.cs
  subst hyq hyt
  rw [hyl] at hE ⊢
  have HYL := Lib.hid hyl
  clear hSD hyl
  have n0 := hE.l.bN.cell 0; have n1 := hE.l.bN.cell 1
  have p0 := hE.bP.cell 0; have p1 := hE.bP.cell 1
  have f0 := hE.bP.free 0
  have b1 := hE.bP.set 0 (.int .i64 sw)
  have r1 := b1.cell 1
  have f1 := b1.free 1
  have hPN : N + 1 < P := by omega
  have hE2 := hE.sides HI.out hPN hM0 hMP sw sh
  have HM0 := Lib.hid hM0
  go_upto_region 6 with (go_at_call 29; refine (hsi _).mono ?_; rintro e w' ⟨rfl, rfl⟩)
  refine wp_world (FI N P M0 x ⟨sw, sh, .slice yb x.cs.length ycap, .slice qb x.qs.length qcap, .slice tb x.ts.length tcap, ycs, x.qs, x.ts⟩ w V0) hE2 ?_
  clear hE2 hE n0 n1 p0 p1 f0 b1 r1 f1 hsi
  intro V2 hE
  have q2 : V2.cell? ⟨N, 2, none⟩ = some (.slice cb x.cs.length ccap) := by rw [← HCU.out]; exact hE.l.bN.cell 2
  go_wp2
  clear q2
  go_loopw [35] (fun iv wr => ∃ i : Nat, i ≤ x.cs.length ∧ iv = .int .i64 i ∧ ∃ cs, cs.map cd = (kTo k x.cs i).map cd ∧ FI N P M0 x ⟨sw, sh, .slice yb x.cs.length ycap, .slice qb x.qs.length qcap, .slice tb x.ts.length tcap, cs, x.qs, x.ts⟩ w V0 wr) (fun iv _ => x.cs.length - (intOf iv).toNat)
  case atStart => exact ⟨0, Nat.zero_le _, rfl, ycs, HCD.out, hE⟩
  case round =>
    clear hE HCD HYL
    clear ycs
    obtain ⟨i, hi, rfl, cs, hcd, hE⟩ := hrel
    have hcl : cs.length = x.cs.length := by
      have := congrArg List.length hcd
      rw [List.length_map, List.length_map, kTo_len k x.cs hi] at this
      exact this
    by_cases hlt : i < x.cs.length
    · have tl : decide (i < x.cs.length) = true := by simpa using hlt
      have hcs : IsComps wr (.slice cb x.cs.length ccap) x.cs := by have := hE.l.img.cs; rwa [HCU.out] at this
      obtain ⟨aa, rfl, c0, c1, c2, c3, c4, c5, c6⟩ := hcs.at hlt
      have hok := hcs.ok _ (List.getElem_mem hlt)
      obtain ⟨p1, -, -⟩ := HR.out.plane hlt
      have hfc := fun W (q : IsImg W (.agg #[.int .i64 x.w, .int .i64 x.h, x.cu, x.qu, x.tu]) x) => flip_comp_k k k0 k8 (x.cs[i]'hlt) p1 W (q.cs.ok _ (List.getElem_mem hlt))
      have hdo : ∀ u W, Ar W 64 u (flipK k (x.cs[i]'hlt)).bs.length (bcells (flipK k (x.cs[i]'hlt)).bs) → CompArg.Ok W { flipK k (x.cs[i]'hlt) with u := u } := fun u W ha => by
        obtain ⟨cn, rn, cols, rows, K⟩ := natK ⟨k0, k8⟩ p1
        exact flipK_ok ⟨k0, k8⟩ hok K u W ha
      have hst : ∀ u, (cs.set i { flipK k (x.cs[i]'hlt) with u := u }).map cd = (kTo k x.cs (i + 1)).map cd := fun u => by
        rw [← kTo_succ k x.cs hlt, List.map_set, List.map_set, hcd]
        rfl
      have HST := Lib.hid hst
      obtain ⟨ub, uc, hu, -, -⟩ := hok.ar.len
      unfold CompArg.val at hfc
      rw [hu] at hfc c6
      generalize flipK k (x.cs[i]'hlt) = d at *
      have HDO := Lib.hid hdo
      have j0 : (0 : Int) ≤ (i : Int) := by omega
      have j1 : (i : Int) < (x.cs.length : Int) := by omega
      clear hok p1 hu hcs hdo hst hcd
      generalize (x.cs[i]'hlt).id = x0 at *
      generalize (x.cs[i]'hlt).h = x1 at *
      generalize (x.cs[i]'hlt).v = x2 at *
      generalize (x.cs[i]'hlt).q = x3 at *
      generalize (x.cs[i]'hlt).c = x4 at *
      generalize (x.cs[i]'hlt).r = x5 at *
      generalize (x.cs[i]'hlt).bs = bs at *
      obtain ⟨C, hC⟩ : ∃ C, C = wr.heap.size := ⟨_, rfl⟩
      have HC := Lib.hid hC
      clear hC
      go_upto_region 9 with fail
      have hbe : Below wr.heap.size wr (wr.alloc (.cells #[.int .i64 x0, .int .i64 x1, .int .i64 x2, .int .i64 x3, .int .i64 x4, .int .i64 x5, .slice ub bs.length uc] 48)) := (Below.refl _ _).alloc (Nat.le_refl _) _
      rw [← HC.out]
      have hkc : i < cs.length := by rw [hcl]; exact hlt
      obtain ⟨g, cap', he, hlo, hgs, -⟩ := hE.own.row.cells (by simp only; omega)
      simp only [Value.slice.injEq] at he
      obtain ⟨rfl, -, -⟩ := he
      refine wp_world (fun V => FI N P M0 x ⟨sw, sh, .slice (some ⟨g, 0, none⟩) x.cs.length ycap, .slice qb x.qs.length qcap, .slice tb x.ts.length tcap, cs, x.qs, x.ts⟩ w V0 V ∧ Blk V C #[.int .i64 x0, .int .i64 x1, .int .i64 x2, .int .i64 x3, .int .i64 x4, .int .i64 x5, .slice ub bs.length uc] 48) ⟨hE.below hbe, Blk.new' _ _ _ HC.out⟩ ?_
      clear hbe hE c0 c1 c2 c3 c4 c5 c6 HC hgs
      clear wr
      intro V3 hG0
      have hMW := hG0.1.own.hW
      have HCL := Lib.hid hcl
      have hGm : ∀ V V', (fun V => FI N P M0 x ⟨sw, sh, .slice (some ⟨g, 0, none⟩) x.cs.length ycap, .slice qb x.qs.length qcap, .slice tb x.ts.length tcap, cs, x.qs, x.ts⟩ w V0 V ∧ Blk V C #[.int .i64 x0, .int .i64 x1, .int .i64 x2, .int .i64 x3, .int .i64 x4, .int .i64 x5, .slice ub bs.length uc] 48) V → Below V.heap.size V V' → (fun V => FI N P M0 x ⟨sw, sh, .slice (some ⟨g, 0, none⟩) x.cs.length ycap, .slice qb x.qs.length qcap, .slice tb x.ts.length tcap, cs, x.qs, x.ts⟩ w V0 V ∧ Blk V C #[.int .i64 x0, .int .i64 x1, .int .i64 x2, .int .i64 x3, .int .i64 x4, .int .i64 x5, .slice ub bs.length uc] 48) V' := fun V V' q hb => ⟨q.1.below hb, q.2.below hb q.2.lt⟩
      generalize hd0 : d.id = d0 at *
      generalize hd1 : d.h = d1 at *
      generalize hd2 : d.v = d2 at *
      generalize hd3 : d.q = d3 at *
      generalize hd4 : d.c = d4 at *
      generalize hd5 : d.r = d5 at *
      have HD5 := Lib.hid (And.intro hd0 (And.intro hd1 (And.intro hd2 (And.intro hd3 (And.intro hd4 hd5)))))
      clear hd0 hd1 hd2 hd3 hd4 hd5 hcl
      refine wp_region_mono [0, 1, 2, 3, 4, 5, 6] [7] (fun V => FI N P M0 x ⟨sw, sh, .slice (some ⟨g, 0, none⟩) x.cs.length ycap, .slice qb x.qs.length qcap, .slice tb x.ts.length tcap, cs, x.qs, x.ts⟩ w V0 V ∧ Blk V C #[.int .i64 x0, .int .i64 x1, .int .i64 x2, .int .i64 x3, .int .i64 x4, .int .i64 x5, .slice ub bs.length uc] 48) (fun | 5 => some (sRel (shC d0 d1 d2 d3 d4 d5 d.bs.length) (fC d.bs)) | _ => none) (fun _ => []) (by kernel_rfl) (by kernel_rfl) (hGm _ _ hG0 (Below.refl _ _).drew) ?_ ?_
      · intro i s hs
        match i with
        | 5 => cases hs; exact fun _ _ => fC_mono _ _
      clear hG0
      simp only [pick, List.getD_cons_succ, List.getD_cons_zero, List.zip_cons_cons, List.zip_nil_right]
      (first | (refine mono_skip (by rfl) ?_; simp only [Act.put, List.setIfInBounds_toArray, List.set_cons_zero, List.set_cons_succ]) | (refine mono_pure (v := ?_) (by rfl) rfl ?_ ?_; rotate_left; (intro wS hS; go_simp; try with_reducible rfl); simp only [Act.put, List.setIfInBounds_toArray, List.set_cons_zero, List.set_cons_succ]))
      refine mono_pure (v := .slice (some ⟨g, 0, none⟩) x.cs.length ycap) (by rfl) rfl (fun w1 hG => by have cy : w1.cell? ⟨P, 2, none⟩ = some (.slice (some ⟨g, 0, none⟩) x.cs.length ycap) := hG.1.bP.cell 2; go_simp; try with_reducible rfl) ?_
      simp only [Act.put, List.setIfInBounds_toArray, List.set_cons_zero, List.set_cons_succ]
      (first | (refine mono_skip (by rfl) ?_; simp only [Act.put, List.setIfInBounds_toArray, List.set_cons_zero, List.set_cons_succ]) | (refine mono_pure (v := ?_) (by rfl) rfl ?_ ?_; rotate_left; (intro wS hS; go_simp; try with_reducible rfl); simp only [Act.put, List.setIfInBounds_toArray, List.set_cons_zero, List.set_cons_succ]))
      refine mono_pure (by rfl) rfl (fun w1 hG => run_exec_load_row 48 _ rfl C rfl 48 _ _ hG.2 Tryz.underlying48 rfl (by kernel_rfl)) ?_
      simp only [Act.put, List.setIfInBounds_toArray, List.set_cons_zero, List.set_cons_succ]
      (first | (refine mono_skip (by rfl) ?_; simp only [Act.put, List.setIfInBounds_toArray, List.set_cons_zero, List.set_cons_succ]) | (refine mono_pure (v := ?_) (by rfl) rfl ?_ ?_; rotate_left; (intro wS hS; go_simp; try with_reducible rfl); simp only [Act.put, List.setIfInBounds_toArray, List.set_cons_zero, List.set_cons_succ]))
      refine mono_rel (shC d0 d1 d2 d3 d4 d5 d.bs.length) (fC d.bs) (by rfl) rfl hGm (by intro w hG; go_simp; first | done | exact ⟨rfl, rfl⟩) ⟨_, none, 0, rfl⟩ (fun w1 hG hH => ?_) (fun v3 hv3 => ?_)
      · refine (hfc w1 hG.1.l.img).mono ?_
        rintro e w2 ⟨⟨v, rfl, hRw⟩, hb⟩
        obtain ⟨bv, cv, rfl⟩ := hRw.len
        exact ⟨_, rfl, ⟨bv, cv, rfl⟩, hb, _, ⟨_, _, _, _, _, _, rfl⟩, hRw, fun g e => (hRw.lt g e).2⟩
      obtain ⟨bv, cv, rfl⟩ := hv3
      simp only [Act.put, List.setIfInBounds_toArray, List.set_cons_zero, List.set_cons_succ]
      (first | (refine mono_skip (by rfl) ?_; simp only [Act.put, List.setIfInBounds_toArray, List.set_cons_zero, List.set_cons_succ]) | (refine mono_pure (v := ?_) (by rfl) rfl ?_ ?_; rotate_left; (intro wS hS; go_simp; try with_reducible rfl); simp only [Act.put, List.setIfInBounds_toArray, List.set_cons_zero, List.set_cons_succ]))
      refine mono_nil ?_
      rintro V5 ⟨hE, bC⟩ ⟨hbs, I, hI1, -⟩
      obtain ⟨z1, z2, z3, uu, ⟨u0, u1, u2, u3, u4, u5, hue⟩, hRr, hRl⟩ := hI1 5 _ (upd_self _ _ _)
      obtain rfl : uu = .slice bv d.bs.length cv := by simp at hue; exact hue.2.2.2.2.2.2.symm
      clear hue hI1 hGm hfc
      have hcl := HCL.out
      have hput := hE.own.putC (g := g) (cap := ycap) (by simp only; rw [hcl]) hkc { d with u := .slice bv d.bs.length cv } (hRr.down (Nat.le_trans hMW z1)) (fun W' ha => HDO.out _ W' ha)
      have hrow := hE.own.row
      simp only at hrow
      rw [hcl] at hrow
      have hFI := hE.wrote HI.out hM0 hrow.blk (by decide) hlo hput rfl rfl rfl rfl rfl
      have hth := hrow.thereN (i * 7) 7 (by omega)
      have hcells : CompArg.cells { d with u := .slice bv d.bs.length cv } = [.int .i64 d0, .int .i64 d1, .int .i64 d2, .int .i64 d3, .int .i64 d4, .int .i64 d5, .slice bv d.bs.length cv] := by
        obtain ⟨rfl, rfl, rfl, rfl, rfl, rfl⟩ := HD5.out
        rfl
      rw [hcells] at hFI
      have HFI := Lib.hid hFI
      clear hFI hput hrow hE bC hRr hRl hcl hcells
      refine wpList_store_mid rfl 48 _ _ rfl g (i * 7) #[.int .i64 d0, .int .i64 d1, .int .i64 d2, .int .i64 d3, .int .i64 d4, .int .i64 d5, .slice bv d.bs.length cv] rfl rfl hth (by kernel_rfl) (by simp [Value.oneCell']) ?_
      simp only [Act.put]
      go_wp2
      exact ⟨⟨i + 1, by omega, by go_num, _, HST.out _, HFI.out⟩, by simp [intOf]; omega⟩
    · obtain rfl : i = x.cs.length := by omega
      have tl : decide (x.cs.length < x.cs.length) = false := by simp
      have hcd2 : cs.map cd = (x.cs.map (flipK k)).map cd := by
        rw [hcd]
        unfold kTo
        rw [List.take_length, List.drop_length, List.append_nil]
      have HCD := Lib.hid hcd2
      have HCL := Lib.hid hcl
      clear hcd hcd2 hcl hi hlt
      obtain ⟨Wb, hWb⟩ : ∃ W, W = wr := ⟨_, rfl⟩
      subst hWb
      have q3 : Wb.cell? ⟨N, 3, none⟩ = some (.slice qb0 x.qs.length qcap0) := by rw [← HQU.out]; exact hE.l.bN.cell 3
      go_wp2
      clear q3
      have hq0 : qTo k x.qs 0 = x.qs := by simp [qTo]
      go_loopw [51] (fun iv wr => ∃ i : Nat, i ≤ x.qs.length ∧ iv = .int .i64 i ∧ FI N P M0 x ⟨sw, sh, .slice yb x.cs.length ycap, .slice qb x.qs.length qcap, .slice tb x.ts.length tcap, cs, (qTo k x.qs i), x.ts⟩ w V0 wr) (fun iv _ => x.qs.length - (intOf iv).toNat)
      case atStart => exact ⟨0, Nat.zero_le _, rfl, by rw [hq0]; exact hE⟩
      case round =>
        clear hE hq0 tl
        obtain ⟨i, hi, rfl, hE⟩ := hrel
        by_cases hlt : i < x.qs.length
        · have tl : decide (i < x.qs.length) = true := by simpa using hlt
          have hqs : IsQuants wr (.slice qb0 x.qs.length qcap0) x.qs := by have := hE.l.img.qs; rwa [HQU.out] at this
          obtain ⟨ad, rfl⟩ : ∃ ad, qb0 = some ad := by
            have hA := hqs.el.ar
            rw [List.length_map] at hA
            rcases hA.2 with ⟨h0, h1⟩ | ⟨ad, _, h0, _⟩
            · omega
            · exact ⟨ad, by simpa using (Value.slice.inj h0).1⟩
          have hqo := hqs.ok _ (List.getElem_mem hlt)
          have j0 : (0 : Int) ≤ (i : Int) := by omega
          have j1 : (i : Int) < (x.qs.length : Int) := by omega
          have hqa := fun (h2 : i < (qTo k x.qs i).length) => qTo_at k x.qs hlt h2
          have hqn := qTo_succ k x.qs hlt
          have hql := qTo_len k x.qs hi
          have hld := fun {o : Oper} {act : Act} (y : Operand) (ho : o.op = .load 40 y) (hy : act.eval y = .pointer (some (ad.add (i * 65)))) => q_load (w := wr) hqs hlt y ho hy
          obtain ⟨q, hq⟩ : ∃ q, x.qs[i]'hlt = q := ⟨_, rfl⟩
          rw [hq] at hqo hqn hld
          simp only [hq] at hqa
          have hq64 : q.arr.size = 65 := by simp [QuantArg.arr, QuantArg.cells, hqo.l64]
          have HQA := Lib.hid hqa; have HQN := Lib.hid hqn; have HQL := Lib.hid hql
          obtain ⟨C, hC⟩ : ∃ C, C = wr.heap.size := ⟨_, rfl⟩
          have HC := Lib.hid hC
          clear hC hq hqs hqa hqn hql
          go_upto_region 14 with (first
            | (refine Great.wpList_runTo rfl _ rfl _ _ (hld _ rfl rfl) ?_)
            | (refine Great.wpList_runTo rfl _ rfl _ _ (run_alloc_quant _ rfl) ?_)
            | (refine wpList_store_row rfl 40 _ _ rfl C _ (by rw [HC.out]; rfl) rfl 40 _ (Blk.new' _ _ _ HC.out) (by rw [hq64]; kernel_rfl) (by rw [zeroQuant_size, hq64]) (QuantArg.arr_one _) ?_))
          have hbe : Below wr.heap.size wr ((wr.alloc (.cells zeroQuant 40)).setRow C q.arr) := Below.setRow ((Below.refl _ _).alloc (Nat.le_refl _) _) (Nat.le_of_eq HC.out.symm) _
          try rw [← HC.out]
          obtain ⟨g, cap', he, hlo, hgs, -⟩ := hE.own.q.cells (by simp only; rw [HQL.out]; omega)
          simp only [Value.slice.injEq] at he
          obtain ⟨rfl, -, -⟩ := he
          refine wp_world (fun V => FI N P M0 x ⟨sw, sh, .slice yb x.cs.length ycap, .slice (some ⟨g, 0, none⟩) x.qs.length qcap, .slice tb x.ts.length tcap, cs, (qTo k x.qs i), x.ts⟩ w V0 V ∧ Blk V C q.arr 40) ⟨hE.below hbe, (Blk.new' _ _ _ HC.out).row _⟩ ?_
          clear hbe hE HC hgs hld
          clear wr
          intro V3 hG0
          have hGm : ∀ V V', (fun V => FI N P M0 x ⟨sw, sh, .slice yb x.cs.length ycap, .slice (some ⟨g, 0, none⟩) x.qs.length qcap, .slice tb x.ts.length tcap, cs, (qTo k x.qs i), x.ts⟩ w V0 V ∧ Blk V C q.arr 40) V → Below V.heap.size V V' → (fun V => FI N P M0 x ⟨sw, sh, .slice yb x.cs.length ycap, .slice (some ⟨g, 0, none⟩) x.qs.length qcap, .slice tb x.ts.length tcap, cs, (qTo k x.qs i), x.ts⟩ w V0 V ∧ Blk V C q.arr 40) V' := fun V V' q hb => ⟨q.1.below hb, q.2.below hb q.2.lt⟩
          refine wp_region_mono [0, 1, 2, 3, 4, 5, 6, 7, 8] [9] (fun V => FI N P M0 x ⟨sw, sh, .slice yb x.cs.length ycap, .slice (some ⟨g, 0, none⟩) x.qs.length qcap, .slice tb x.ts.length tcap, cs, (qTo k x.qs i), x.ts⟩ w V0 V ∧ Blk V C q.arr 40) (fun | 6 => some (sFix (.agg (ints .u16 (Tu.table k q.q)))) | _ => none) (fun _ => []) (by kernel_rfl) (by kernel_rfl) (hGm _ _ hG0 (Below.refl _ _).drew) ?_ ?_
          · intro i s hs
            match i with
            | 6 => cases hs; exact fun _ _ => sFix_mono _ _ _
          clear hG0
          simp only [pick, List.getD_cons_succ, List.getD_cons_zero, List.zip_cons_cons, List.zip_nil_right]
          (first | (refine mono_skip (by rfl) ?_; simp only [Act.put, List.setIfInBounds_toArray, List.set_cons_zero, List.set_cons_succ]) | (refine mono_pure (v := ?_) (by rfl) rfl ?_ ?_; rotate_left; (intro wS hS; go_simp; try with_reducible rfl); simp only [Act.put, List.setIfInBounds_toArray, List.set_cons_zero, List.set_cons_succ]))
          refine mono_pure (v := .slice (some ⟨g, 0, none⟩) x.qs.length qcap) (by rfl) rfl (fun w1 hG => by have cy : w1.cell? ⟨P, 3, none⟩ = some (.slice (some ⟨g, 0, none⟩) x.qs.length qcap) := hG.1.bP.cell 3; go_simp; try with_reducible rfl) ?_
          simp only [Act.put, List.setIfInBounds_toArray, List.set_cons_zero, List.set_cons_succ]
          iterate 3 (first | (refine mono_skip (by rfl) ?_; simp only [Act.put, List.setIfInBounds_toArray, List.set_cons_zero, List.set_cons_succ]) | (refine mono_pure (v := ?_) (by rfl) rfl ?_ ?_; rotate_left; (intro wS hS; go_simp; try with_reducible rfl); simp only [Act.put, List.setIfInBounds_toArray, List.set_cons_zero, List.set_cons_succ]))
          refine mono_pure (by rfl) rfl (fun w1 hG => q_box_tab hG.2 hqo _ rfl rfl) ?_
          simp only [Act.put, List.setIfInBounds_toArray, List.set_cons_zero, List.set_cons_succ]
          refine mono_fix (.agg (ints .u16 (Tu.table k q.q))) (by rfl) rfl hGm (by intro w hG; go_simp; first | done | exact ⟨rfl, rfl⟩) (fun w1 hG hH => table_any k q.q hqo.l64 w1) ?_
          simp only [Act.put, List.setIfInBounds_toArray, List.set_cons_zero, List.set_cons_succ]
          iterate 2 (first | (refine mono_skip (by rfl) ?_; simp only [Act.put, List.setIfInBounds_toArray, List.set_cons_zero, List.set_cons_succ]) | (refine mono_pure (v := ?_) (by rfl) rfl ?_ ?_; rotate_left; (intro wS hS; go_simp; try with_reducible rfl); simp only [Act.put, List.setIfInBounds_toArray, List.set_cons_zero, List.set_cons_succ]))
          refine mono_nil ?_
          rintro V5 ⟨hE, bC⟩ -
          have htl := Tu.table_len k q.q hqo.l64
          have hql := HQL.out
          have hki : i < (qTo k x.qs i).length := by rw [hql]; exact hlt
          have hput := hE.own.putQ (g := g) (cap := qcap) (by simp only; rw [hql]) hki (Tu.table k q.q) htl (fun y hy => hqo.wq y (table_mem ⟨k0, k8⟩ hqo.l64 hy))
          have hrow := hE.own.q
          simp only at hrow
          rw [hql] at hrow
          have hFI := hE.wrote HI.out hM0 hrow.blk (by decide) hlo hput rfl rfl rfl rfl rfl
          simp only at hFI
          rw [HQA.out hki] at hFI
          have hqn := HQN.out
          unfold flipQ at hqn
          rw [hqn] at hFI
          have hth := hrow.thereN (i * 65 + 1) (ints .u16 (Tu.table k q.q)).size (by rw [ints_size, htl]; omega)
          have hvs : (ints .u16 (Tu.table k q.q)).toList = (Tu.table k q.q).map (Value.int .u16) := by simp [ints]
          have HFI := Lib.hid hFI
          clear hFI hput hrow hE bC hGm hqn hql
          refine wpList_store_mid rfl 38 _ _ rfl g (i * 65 + 1) (ints .u16 (Tu.table k q.q)) rfl rfl hth (by rw [ints_size, htl]; kernel_rfl) (ints_one _ _) ?_
          simp only [Act.put]
          rw [hvs]
          go_wp2
          exact ⟨⟨i + 1, by omega, by go_num, HFI.out⟩, by simp [intOf]; omega⟩
        · obtain rfl : i = x.qs.length := by omega
          have tl : decide (x.qs.length < x.qs.length) = false := by simp
          have hqe : qTo k x.qs x.qs.length = x.qs.map (flipQ k) := by unfold qTo; rw [List.take_length, List.drop_length, List.append_nil]
          rw [hqe] at hE
          have hlD : w.heap.size ≤ N + 1 := by omega
          clear hqe hi hlt
          go_wp2_with (first
            | (refine wpList_load_row rfl 26 _ rfl P rfl 26 _ _ _ hE.bP Tryz.underlying26 rfl (by kernel_rfl) ?_)
            | (refine wpList_store_row rfl 26 _ _ rfl (N + 1) _ rfl rfl 26 _ hE.bQ (by kernel_rfl) rfl (by simp [Value.oneCell']) ?_))
          refine bodyPost_ret (results_row_tmp rfl _ _ (N + 1) 26 _ _ rfl (hE.bQ.row _) Tryz.underlying26 rfl (by kernel_rfl)) rfl ?_
          have hfin := hE.own.setRow (N + 1) HM0.out #[.int .i64 sw, .int .i64 sh, .slice yb x.cs.length ycap, .slice qb x.qs.length qcap, .slice tb x.ts.length tcap] w hlD hE.l.hB
          have hsd : SameD (flipI x k) ⟨sw, sh, .slice yb x.cs.length ycap, .slice qb x.qs.length qcap, .slice tb x.ts.length tcap, cs, x.qs.map (flipQ k), x.ts⟩ := by
            refine ⟨?_, ?_, HCD.out, rfl, rfl⟩
            · unfold flipI; simp only; rw [HSV.out]
            · unfold flipI; simp only; rw [HSV.out]
          have hww : (Lit.int .i64 sw).wf = true ∧ (Lit.int .i64 sh).wf = true := by
            have h1 := HI.out.ww; have h2 := HI.out.wh
            have h3 := HSV.out
            by_cases h4 : 4 ≤ k
            · rw [sides_hiE _ _ h4 k8] at h3; simp only [Prod.mk.injEq] at h3; obtain ⟨rfl, rfl⟩ := h3; exact ⟨h2, h1⟩
            · rw [sides_loE _ _ k0 h4] at h3; simp only [Prod.mk.injEq] at h3; obtain ⟨rfl, rfl⟩ := h3; exact ⟨h1, h2⟩
          exact ⟨⟨_, ⟨rfl, by rw [← HD2.out]; exact hsd, hfin.ownT, hsd.few (flip_few hf k), hww.1, hww.2⟩⟩, Below.setRow hE.l.hB hlD _⟩
end Go.Proofs.YtgmhhocpdfdplaaGreat
/- The example of the statements on turns: its walk; what their own small function answers. -/
namespace Go.Proofs.YtgmhhocpdfdplaaGreat
open Go.RowKit
set_option maxRecDepth 100000
set_option maxHeartbeats 8000000
theorem law_small18 (x : ImgArg) (w : World) (h : IsImg w x.val x) :
    Calls Tryz.prog 5 #[x.val] w fun e w' => FewRes x e ∧ Below w.heap.size w w' := by
  have hL := LI.begin h
  obtain ⟨N, hN⟩ : ∃ N, N = w.heap.size := ⟨_, rfl⟩
  rw [← hN] at hL
  have HN := Lib.hid hN
  have hf := fun W h => ref_few_any 80 3000 (by decide) (by decide) (by decide) (by decide) (.agg #[.int .i64 x.w, .int .i64 x.h, x.cu, x.qu, x.tu]) x W h
  unfold ImgArg.val
  clear hN h
  go_enter Tryz.func5, Tryz.ntmps5
  go_upto_region 1 with fail
  refine wp_world (LI N x w) hL ?_
  rw [← HN.out]
  clear hL
  intro V hL
  go_wp2_with (first | (refine wpList_load_row rfl 26 _ rfl N rfl 26 _ _ _ hL.bN Tryz.underlying26 rfl (by kernel_rfl) ?_) | (go_at_call 12; refine (hf _ hL.img).mono ?_; rintro e w1 ⟨⟨b, rfl, hb⟩, hb1⟩; replace hL := hL.below hb1))
  go_ret
  exact ⟨⟨b, rfl, hb⟩, hL.hB⟩
def aw8A (c r : Int) (u : Value) (bs : List (List Int)) : CompArg := ⟨0, 1, 1, 0, c, r, u, bs⟩
def aw8X (cu qu : Value) : ImgArg := ⟨9, 8, cu, qu, .slice none 0 0, [aw8A 0 0 (.slice none 0 0) []], [qOnes 64], []⟩
def aw81 (cu qu tu u : Value) : ImgArg := ⟨9, 8, cu, qu, tu, [aw8A 2 1 u (List.replicate 2 (List.replicate 64 0))], [qOnes 64], []⟩
theorem aw8_fr (cu qu : Value) : frE (aw8X cu qu) = 0 := by rfl
theorem aw8_g (cu qu : Value) : frG (aw8X cu qu) = [⟨2, 1, 2, 1⟩] := by rfl
theorem aw8_e (cu qu tu u : Value) : imgE (aw81 cu qu tu u) = 0 := by kernel_rfl
theorem aw8_m1 (cu qu tu u : Value) : mayE (aw81 cu qu tu u) 1 = 13 := by kernel_rfl
theorem aw8_m4 (cu qu tu u : Value) : mayE (aw81 cu qu tu u) 4 = 0 := by kernel_rfl
theorem aw8_s (cu qu tu u : Value) : (flipD (aw81 cu qu tu u) 4).w = 8 ∧ (flipD (aw81 cu qu tu u) 4).h = 9 := by
  unfold flipD
  rw [if_pos (aw8_m4 _ _ _ _)]
  exact ⟨rfl, rfl⟩
theorem aw8_few (cu qu : Value) : FewOk (aw8X cu qu) := ⟨by simp [aw8X], by simp [aw8X], by simp [aw8X], fun c hc => by simp [aw8X] at hc; subst hc; simp [aw8A], fun t ht => by simp [aw8X] at ht⟩
theorem aw8_few1 (cu qu tu u : Value) : FewOk (aw81 cu qu tu u) := ⟨by simp [aw81], by simp [aw81], by simp [aw81], fun c hc => by simp [aw81] at hc; subst hc; simp [aw8A], fun t ht => by simp [aw81] at ht⟩
theorem aw8_img {W : World} {c q : Nat} (h1 : Blk W c #[.int .i64 0, .int .i64 1, .int .i64 1, .int .i64 0, .int .i64 0, .int .i64 0, .slice none 0 0] 48) (h2 : Blk W q (qOnes 64).arr 40) :
    IsImg W (aw8X (.slice (some ⟨c, 0, none⟩) 1 1) (.slice (some ⟨q, 0, none⟩) 1 1)).val (aw8X (.slice (some ⟨c, 0, none⟩) 1 1) (.slice (some ⟨q, 0, none⟩) 1 1)) := by
  have r1 : Row W 0 48 7 (.slice (some ⟨c, 0, none⟩) 1 1) 1 (([aw8A 0 0 (.slice none 0 0) []].map CompArg.cells).flatten) := ⟨rfl, .inr ⟨c, 1, _, rfl, Nat.zero_le _, h1, Nat.le_refl _, by simp [maxLen], by simp, by simp [aw8A, CompArg.cells]⟩⟩
  have hs := qOnes_size (i := 64) (by decide)
  have r2 : Row W 0 40 65 (.slice (some ⟨q, 0, none⟩) 1 1) 1 (([qOnes 64].map QuantArg.cells).flatten) := ⟨by simpa [QuantArg.arr] using hs, .inr ⟨q, 1, _, rfl, Nat.zero_le _, h2, Nat.le_refl _, by simp [maxLen], by rw [hs]; decide, by
    have hl : (qOnes 64).cells.length = 65 := by simpa [QuantArg.arr] using hs
    simp only [QuantArg.arr, List.map_cons, List.map_nil, List.flatten_cons, List.flatten_nil, List.append_nil]
    rw [List.take_of_length_le (by omega)]⟩⟩
  refine ⟨rfl, by rfl, by rfl, ⟨Ar.elems r1.ar (fun c hc => by obtain ⟨p, _, rfl⟩ := List.mem_map.1 hc; rfl) rfl (by simp [maxLen]), fun x hx => ?_⟩, ⟨Ar.elems r2.ar (fun c hc => by simp [aw8X] at hc; subst hc; simpa [QuantArg.arr] using hs) rfl (by simp [maxLen]), fun x hx => ?_⟩, ⟨Ar.elems (Ar.nil _ 2) (by simp [aw8X]) rfl (by simp), by simp [aw8X]⟩⟩
  · simp only [aw8X, List.mem_singleton] at hx
    subst hx
    exact ⟨Ar.nil _ _, fun b hb => by simp [aw8A] at hb, fun b hb => by simp [aw8A] at hb, rfl, rfl, rfl, rfl, rfl, rfl⟩
  · simp only [aw8X, List.mem_singleton] at hx
    subst hx
    refine ⟨rfl, onesTo_len (by decide), fun y hy => ?_⟩
    have : y = 1 := by
      have h0 : onesTo 64 = List.replicate 64 1 := by rfl
      have hy' : y ∈ onesTo 64 := hy
      rw [h0] at hy'
      exact List.eq_of_mem_replicate hy'
    subst this
    rfl
theorem aw8_res {cu qu v : Value} {e : Int} {w : World} (h : BlankRes (aw8X cu qu) v e w) :
    e = 0 ∧ ∃ cb ccap qb qcap tb tcap u, v = .agg #[.int .i64 9, .int .i64 8, .slice cb 1 ccap, .slice qb 1 qcap, .slice tb 0 tcap] ∧ IsImg w v (aw81 (.slice cb 1 ccap) (.slice qb 1 qcap) (.slice tb 0 tcap) u) := by
  obtain ⟨x1, hB, he, -, h2⟩ := h.2 (aw8_fr _ _)
  obtain ⟨xw, xh, xcu, xqu, xtu, xcs, xqs, xts⟩ := x1
  obtain ⟨hw, hh, hq, ht, hc, -⟩ := hB
  simp only at hw hh hq ht hc
  subst hw hh hq ht
  obtain ⟨hlen, hlo, -⟩ := hc
  obtain ⟨c, rfl⟩ : ∃ c, xcs = [c] := by
    match xcs, hlen with
    | [c], _ => exact ⟨c, rfl⟩
  have hcb := hlo 0 (by simp [aw8X]) (by simp [aw8X])
  rw [aw8_g] at hcb
  obtain ⟨cid, ch, cv, cq, cc, cr, cu1, cbs⟩ := c
  obtain ⟨g1, g2, g3, g4, g5, g6, g7⟩ := hcb
  simp [aw8X, aw8A, zeroBs] at g1 g2 g3 g4 g5 g6 g7
  subst g1 g2 g3 g4 g5 g6 g7
  have he0 : e = 0 := by rw [he]; exact aw8_e xcu xqu xtu cu1
  refine ⟨he0, ?_⟩
  obtain ⟨hv, hI⟩ := h2 he0
  obtain ⟨cb, ccap, rfl⟩ : ∃ b cap, xcu = .slice b 1 cap := hI.cs.len
  obtain ⟨qb, qcap, rfl⟩ : ∃ b cap, xqu = .slice b 1 cap := hI.qs.len
  obtain ⟨tb, tcap, rfl⟩ : ∃ b cap, xtu = .slice b 0 cap := hI.ts.len
  subst hv
  exact ⟨cb, ccap, qb, qcap, tb, tcap, cu1, rfl, hI⟩
theorem awake18a (w : World) : Calls Tryz.prog 4 #[] w fun e w' => e = .returned (.bool true) ∧ Below w.heap.size w w' := by
  obtain ⟨P, hP⟩ : ∃ P, P = w.heap.size := ⟨_, rfl⟩
  have HP := Lib.hid hP
  rw [← hP]
  clear hP
  go_enter Tryz.func4, Tryz.ntmps4
  go_upto_region 2 with (first | refine wpList_buildTo rfl 40 _ rfl (some 9) rfl (qOnes 0).arr (by kernel_rfl) ?_ | refine wpList_allocTo rfl (some 1) rfl _ _ (run_alloc_quant _ rfl) ?_ | refine wpList_store_rowTo rfl 40 _ _ rfl rfl P (qOnes 0).arr (by rw [HP.out]; rfl) rfl 40 zeroQuant (Blk.new' _ _ _ HP.out) (by rw [qOnes_size (by decide)]; kernel_rfl) (by rw [zeroQuant_size, qOnes_size (by decide)]) (QuantArg.arr_one _) ?_)
  rw [← HP.out]
  refine wp_world (fun W => Blk W P (qOnes 0).arr 40 ∧ Below P w W) ⟨(Blk.new' _ _ _ HP.out).row _, by rw [HP.out]; exact Below.setRow ((Below.refl _ _).alloc (Nat.le_refl _) _) (Nat.le_refl _) _⟩ ?_
  rintro W ⟨bP, hB⟩
  go_wp2
  go_loopw [2] (fun iv wr => ∃ i : Nat, i ≤ 64 ∧ iv = .int .i64 i ∧ Blk wr P (qOnes i).arr 40 ∧ Below P w wr) (fun iv _ => 64 - (intOf iv).toNat)
  case atStart => exact ⟨0, by decide, rfl, bP, hB⟩
  case round =>
    clear bP hB
    obtain ⟨i, hi, rfl, bP, hB⟩ := hrel
    by_cases hlt : i < 64
    · have tl : decide ((i : Int) < 64) = true := by simp; omega
      have j0 : (0 : Int) ≤ (i : Int) := by omega
      have j1 : (i : Int) < 64 := by omega
      have q : ∃ a, wr.cell? ⟨P, 1 + i, none⟩ = some a := ⟨_, (bP.cell _).trans (Array.getElem?_eq_getElem (by rw [qOnes_size hi]; omega))⟩
      obtain ⟨qa, q⟩ := q
      have f := bP.free (1 + i)
      have hset := bP.set (1 + i) (.int .u16 1)
      rw [qOnes_step hlt] at hset
      go_wp2
      go_roundw
      case rel => exact ⟨i + 1, by omega, by go_num, hset, hB.setCell (Nat.le_refl _) _⟩
      case measure => simp [intOf]; omega
    · obtain rfl : i = 64 := by omega
      have tl : decide ((64 : Int) < 64) = false := rfl
      go_upto_region 7 with (first | (refine wpList_load_row rfl 40 _ rfl P rfl 40 _ _ _ (bP.alloc _) Tryz.underlying40 rfl (by rw [qOnes_size (by decide)]; kernel_rfl) ?_) | (refine Great.wpList_runTo rfl _ rfl _ _ (run_slice_quant _ rfl _ rfl (qOnes_size (by decide))) ?_) | (go_at_call 10; refine (img_blank (aw8X _ _) (aw8_few _ _) _ (aw8_img ((Blk.new _ _ _).alloc _) (Blk.new' _ _ _ (by simp)))).mono ?_; rintro r w5 ⟨v, e, rfl, hb5, hres⟩; obtain ⟨rfl, cb, ccap, qb, qcap, tb, tcap, u, rfl, hI⟩ := aw8_res hres))
      obtain ⟨M, hM⟩ : ∃ M, M = w5.heap.size := ⟨_, rfl⟩
      rw [← hM]
      have hPl := bP.lt
      have hB5 : Below P w w5 := ((hB.alloc (Nat.le_of_lt hPl) _).alloc (by simp; omega) _).trans (hb5.mono (by simp; omega))
      have hsz : P ≤ w5.heap.size := Nat.le_trans (by simp; omega) hb5.size
      refine wp_world (fun W => Blk W M #[.int .i64 9, .int .i64 8, .slice cb 1 ccap, .slice qb 1 qcap, .slice tb 0 tcap] 26 ∧ IsImg W (.agg #[.int .i64 9, .int .i64 8, .slice cb 1 ccap, .slice qb 1 qcap, .slice tb 0 tcap]) (aw81 (.slice cb 1 ccap) (.slice qb 1 qcap) (.slice tb 0 tcap) u) ∧ Below P w W) ⟨Blk.new' _ _ _ hM, hI.below ((Below.refl _ _).alloc (Nat.le_refl _) _), hB5.alloc hsz _⟩ ?_
      have hPM : P ≤ M := by rw [hM]; exact hsz
      clear hI hb5 hM hB5 hsz bP hB hres hPl
      rintro W6 ⟨bM, hI, hB⟩
      have h1 := fun V hI => flip_image (aw81 (.slice cb 1 ccap) (.slice qb 1 qcap) (.slice tb 0 tcap) u) (aw8_few1 _ _ _ _) 1 V hI
      have h4 := fun V hI => flip_image (aw81 (.slice cb 1 ccap) (.slice qb 1 qcap) (.slice tb 0 tcap) u) (aw8_few1 _ _ _ _) 4 V hI
      rw [aw8_m1] at h1
      rw [aw8_m4] at h4
      have HS := Lib.hid (aw8_s (.slice cb 1 ccap) (.slice qb 1 qcap) (.slice tb 0 tcap) u)
      generalize flipD (aw81 (.slice cb 1 ccap) (.slice qb 1 qcap) (.slice tb 0 tcap) u) 1 = D1 at *
      generalize flipD (aw81 (.slice cb 1 ccap) (.slice qb 1 qcap) (.slice tb 0 tcap) u) 4 = D4 at *
      unfold ImgArg.val aw81 at h1 h4
      simp only at h1 h4
      unfold aw81 at hI
      go_upto_region 8 with (first
        | (refine wpList_load_row rfl 26 _ rfl M rfl 26 _ _ _ bM Tryz.underlying26 rfl (by kernel_rfl) ?_)
        | (go_at_call 11; refine (h1 _ hI).mono ?_; rintro r w7 ⟨⟨⟨yw, yh, ycu, yqu, ytu, ycs, yqs, yts⟩, hres⟩, hb7⟩; have hIy := hres.img; obtain ⟨rfl, hsd, -, -, -, -⟩ := hres; obtain ⟨yb, ycap, rfl⟩ : ∃ b c, ycu = .slice b ycs.length c := hIy.cs.len; obtain ⟨qb2, qcap2, rfl⟩ : ∃ b c, yqu = .slice b yqs.length c := hIy.qs.len; obtain ⟨tb2, tcap2, rfl⟩ : ∃ b c, ytu = .slice b yts.length c := hIy.ts.len; obtain ⟨Q, hQ⟩ : ∃ Q, Q = w7.heap.size := ⟨_, rfl⟩; have HQ := Lib.hid hQ; clear hQ)
        | (refine wpList_store_row rfl 26 _ _ rfl Q _ (by rw [HQ.out]; rfl) rfl 26 _ (Blk.new' _ _ _ HQ.out) (by kernel_rfl) rfl (by simp [Value.oneCell']) ?_; simp only [Act.put]))
      have hbe : Below w7.heap.size w7 ((w7.alloc (.cells #[.int .i64 0, .int .i64 0, .slice none 0 0, .slice none 0 0, .slice none 0 0] 26)).setRow Q #[.int .i64 yw, .int .i64 yh, .slice yb ycs.length ycap, .slice qb2 yqs.length qcap2, .slice tb2 yts.length tcap2]) := Below.setRow ((Below.refl _ _).alloc (Nat.le_refl _) _) (Nat.le_of_eq HQ.out.symm) _
      have hMl := bM.lt
      have hPW : P ≤ W6.heap.size := by omega
      try rw [← HQ.out]
      refine wp_world (fun V => Blk V M #[.int .i64 9, .int .i64 8, .slice cb 1 ccap, .slice qb 1 qcap, .slice tb 0 tcap] 26 ∧ IsImg V (.agg #[.int .i64 9, .int .i64 8, .slice cb 1 ccap, .slice qb 1 qcap, .slice tb 0 tcap]) ⟨9, 8, .slice cb 1 ccap, .slice qb 1 qcap, .slice tb 0 tcap, [aw8A 2 1 u (List.replicate 2 (List.replicate 64 0))], [qOnes 64], []⟩ ∧ Below P w V) ⟨(bM.below hb7 hMl).below hbe (Nat.lt_of_lt_of_le hMl hb7.size), (hI.below hb7).below hbe, hB.trans ((hb7.trans (hbe.mono hb7.size)).mono hPW)⟩ ?_
      clear hbe h1 hb7 hIy hsd bM hI hB HQ hMl hPW
      rintro W8 ⟨bM, hI, hB⟩
      go_upto_region 9 with (first
        | (refine wpList_load_row rfl 26 _ rfl M rfl 26 _ _ _ bM Tryz.underlying26 rfl (by kernel_rfl) ?_)
        | (go_at_call 11; refine (h4 _ hI).mono ?_; rintro r w9 ⟨⟨⟨zw, zh, zcu, zqu, ztu, zcs, zqs, zts⟩, hres⟩, hb9⟩; have hIz := hres.img; obtain ⟨rfl, hsd, -, -, -, -⟩ := hres; obtain ⟨zb, zcap, rfl⟩ : ∃ b c, zcu = .slice b zcs.length c := hIz.cs.len; obtain ⟨qb3, qcap3, rfl⟩ : ∃ b c, zqu = .slice b zqs.length c := hIz.qs.len; obtain ⟨tb3, tcap3, rfl⟩ : ∃ b c, ztu = .slice b zts.length c := hIz.ts.len; obtain ⟨R, hR⟩ : ∃ R, R = w9.heap.size := ⟨_, rfl⟩; have HR := Lib.hid hR; clear hR)
        | (refine wpList_store_row rfl 26 _ _ rfl R _ (by rw [HR.out]; rfl) rfl 26 _ (Blk.new' _ _ _ HR.out) (by kernel_rfl) rfl (by simp [Value.oneCell']) ?_; simp only [Act.put]))
      have hzw := hsd.w
      have hzh := hsd.h
      simp only at hzw hzh
      rw [HS.out.1] at hzw
      rw [HS.out.2] at hzh
      subst hzw hzh
      have hbe : Below w9.heap.size w9 ((w9.alloc (.cells #[.int .i64 0, .int .i64 0, .slice none 0 0, .slice none 0 0, .slice none 0 0] 26)).setRow R #[.int .i64 8, .int .i64 9, .slice zb zcs.length zcap, .slice qb3 zqs.length qcap3, .slice tb3 zts.length tcap3]) := Below.setRow ((Below.refl _ _).alloc (Nat.le_refl _) _) (Nat.le_of_eq HR.out.symm) _
      have hMl := bM.lt
      have hPW : P ≤ W8.heap.size := by omega
      try rw [← HR.out]
      refine wp_world (fun V => Blk V R #[.int .i64 8, .int .i64 9, .slice zb zcs.length zcap, .slice qb3 zqs.length qcap3, .slice tb3 zts.length tcap3] 26 ∧ Below P w V) ⟨(Blk.new' _ _ _ HR.out).row _, hB.trans ((hb9.trans (hbe.mono hb9.size)).mono hPW)⟩ ?_
      clear hbe h4 hb9 hIz hsd bM hI hB HR hMl hPW HS
      rintro W9 ⟨bR, hB⟩
      have z0 := bR.cell 0; have z1 := bR.cell 1
      go_wp2_with fail
      go_ret
      exact ⟨rfl, hB⟩
end Go.Proofs.YtgmhhocpdfdplaaGreat
