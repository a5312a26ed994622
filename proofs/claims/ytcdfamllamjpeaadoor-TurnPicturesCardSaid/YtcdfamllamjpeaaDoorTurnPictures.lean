/- Whence each place of a turned picture comes is the document's. -/
import Derived.Test.YtcdfamllamjpeaaDoorPicFind
import Derived.Test.YtcdfamllamjpeaaDoorTurnPlaces
import Derived.Test.YtcdfamllamjpeaaDoorTurnGroup
namespace Go.Proofs.YtcdfamllamjpeaaDoor
open Go.RowKit Go.ChangeShapes
namespace Pc
def pic (c r : Nat) : Pict := (c, r, List.range (c * r))
def chk (i wd h : Nat) : Bool :=
  let p := turn i (pic wd h)
  decide (Tu.sides i wd h = ((p.1 : Int), (p.2.1 : Int))) && (List.range p.2.1).all fun r => (List.range p.1).all fun c =>
    let f := Tu.from_ i wd h r c
    decide (0 ≤ f.1) && decide (0 ≤ f.2) && decide (f.1 ≤ 6) && decide (f.2 ≤ 6) && decide (f.1.toNat * wd + f.2.toNat = p.2.2.getD (r * p.1 + c) 0)
theorem chk_all : ∀ i : Nat, i < 8 → ∀ wd : Nat, wd < 6 → ∀ h : Nat, h < 6 → chk i (wd + 1) (h + 1) = true := by decide +kernel
theorem then_all : ∀ i : Nat, i < 8 → ∀ j : Nat, j < 8 → turn j (turn i start) = turn (Tu.then_ i j).toNat start := by decide +kernel
theorem back_all : ∀ i : Nat, i < 8 → turn (Tu.back i).toNat (turn i start) = turn 0 start := by decide +kernel
theorem min_all : ∀ k0 : Nat, k0 < 8 → ∀ k : Nat, k < k0 → turn k start ≠ turn k0 start := by decide +kernel
/-- The world grew from w, whose size is N. -/
def Run (N : Nat) (w W : World) : Prop := Below N w W ∧ N ≤ W.heap.size
theorem Run.next {N : Nat} {w W W' : World} (h : Run N w W) (hb : Below W.heap.size W W') : Run N w W' := ⟨h.1.trans (hb.mono h.2), Nat.le_trans h.2 hb.size⟩
theorem pic_ok (c r : Nat) (hc : c ≤ 6) (hr : r ≤ 6) : Ok (pic c r) := by
  have : c * r ≤ 6 * 6 := Nat.mul_le_mul hc hr
  exact ⟨by simp [pic], by simp [pic]; omega, by simp [pic]; omega, by simpa [pic] using this⟩
theorem chk_spec {i wd h : Nat} {c r : Nat} {l : List Nat} (hc : chk i (wd+1) (h+1) = true) (e : turn i (pic (wd+1) (h+1)) = (c, r, l)) : Tu.sides i (1 + (wd : Int)) (1 + (h : Int)) = ((c : Int), (r : Int)) ∧
    ∀ rr cc : Nat, rr < r → cc < c → ∃ s t : Nat, s ≤ 6 ∧ t ≤ 6 ∧ Tu.from_ i (1 + (wd : Int)) (1 + (h : Int)) rr cc = ((s : Int), (t : Int)) ∧ s * (wd + 1) + t = l.getD (rr * c + cc) 0 := by
  have w1 : (1 : Int) + (wd : Int) = ((wd + 1 : Nat) : Int) := by omega
  have h1 : (1 : Int) + (h : Int) = ((h + 1 : Nat) : Int) := by omega
  rw [w1, h1]
  unfold chk at hc
  simp only [e, Bool.and_eq_true, decide_eq_true_eq, List.all_eq_true, List.mem_range] at hc
  refine ⟨hc.1, fun rr cc hr hcc => ?_⟩
  obtain ⟨⟨⟨⟨q1, q2⟩, q3⟩, q4⟩, q5⟩ := hc.2 rr hr cc hcc
  generalize Tu.from_ i ((wd + 1 : Nat) : Int) ((h + 1 : Nat) : Int) rr cc = f at *
  obtain ⟨f1, f2⟩ := f
  simp only at q1 q2 q3 q4 q5 ⊢
  refine ⟨f1.toNat, f2.toNat, by omega, by omega, ?_, q5⟩
  rw [Int.toNat_of_nonneg q1, Int.toNat_of_nonneg q2]
end Pc
namespace turnPictures
theorem new_pic (c r : Nat) (hc : c < 6) (hr : r < 6) (w : World) : Calls Tryd.prog 14 #[.int .i64 (1 + (c:Int)), .int .i64 (1 + (r:Int))] w fun e w' => ∃ v, e = .returned v ∧ Pc.Is w' 0 v (Pc.pic (c+1) (r+1)).1 (Pc.pic (c+1) (r+1)).2.1 (Pc.pic (c+1) (r+1)).2.2 ∧ Below w.heap.size w w' := by
  rw [show (1:Int) + (c:Int) = ((c+1 : Nat) : Int) by omega, show (1:Int) + (r:Int) = ((r+1 : Nat) : Int) by omega]
  exact new_any (c+1) (r+1) (by have : (c+1) * (r+1) ≤ 6 * 6 := Nat.mul_le_mul hc hr; omega) (by omega) (by omega) w
theorem new_start (w : World) : Calls Tryd.prog 14 #[.int .i64 3, .int .i64 2] w fun e w' => ∃ v, e = .returned v ∧ Pc.Is w' 0 v Pc.start.1 Pc.start.2.1 Pc.start.2.2 ∧ Below w.heap.size w w' :=
  new_any 3 2 (by decide) (by decide) (by decide) w
set_option maxRecDepth 100000 in
set_option maxHeartbeats 4000000 in
theorem walk (a0 a1 a2 a3 : Int) (i j wd h : Nat) (hi : i < 8) (hj : j < 8) (hw6 : wd < 6) (hh6 : h < 6) (ha0 : 0 ≤ a0 ∧ a0 ≤ 255) (ha1 : 0 ≤ a1 ∧ a1 ≤ 255) (ha2 : 0 ≤ a2 ∧ a2 ≤ 255) (ha3 : 0 ≤ a3 ∧ a3 ≤ 255)
    (e0 : a0 % 8 = i) (e1 : a1 % 8 = j) (e2 : a2 % 6 = wd) (e3 : a3 % 6 = h) (w : World) (hnm : Tu.Named w) :
    Calls Tryd.prog 4 #[.int .u8 a0, .int .u8 a1, .int .u8 a2, .int .u8 a3] w fun e w' => e = .returned (.bool true) ∧ Below w.heap.size w w' := by
  obtain ⟨⟨a00, a01⟩, ⟨a10, a11⟩, ⟨a20, a21⟩, ⟨a30, a31⟩⟩ := (⟨ha0, ha1, ha2, ha3⟩ : _ ∧ _ ∧ _ ∧ _)
  clear ha0 ha1 ha2 ha3
  obtain ⟨N, hN⟩ : ∃ N, N = w.heap.size := ⟨_, rfl⟩
  have HN := Lib.hid hN
  have HNn : 0 < N := by rw [hN]; exact hnm.lt
  rw [← hN]
  clear hN
  have hpo := Pc.pic_ok (wd+1) (h+1) (by omega) (by omega)
  have HR : Pc.Run N w w := ⟨Below.refl _ _, by rw [HN.out]; exact Nat.le_refl _⟩
  obtain ⟨P, hP⟩ : ∃ P, Pc.turn i (Pc.pic (wd+1) (h+1)) = P := ⟨_, rfl⟩
  have hPo : Pc.Ok P := by rw [← hP]; exact Pc.turn_ok i hpo
  have HPC := Lib.hid (Pc.chk_all i hi wd hw6 h hh6)
  go_enter Tryd.func4, Tryd.ntmps4
  go_upto_region 4 with (first
    | (go_at_call 14; refine (new_pic wd h hw6 hh6 _).mono ?_; rintro e w' ⟨v, rfl, hIs, hB⟩; replace HR := HR.next hB)
    | (go_at_call 15; refine (turn_any i hi _ hpo _ _ hIs).mono ?_; rintro e w' ⟨v, rfl, hIs, hB⟩; replace HR := HR.next hB; rw [hP] at hIs; obtain ⟨u, rfl, hRow⟩ := hIs; obtain ⟨bu, cu, rfl⟩ := hRow.len)
    )
  obtain ⟨M, hM⟩ : ∃ M, M = w'.heap.size := ⟨_, rfl⟩
  have HM := Lib.hid hM
  have hNM : N ≤ M := by rw [hM]; exact HR.2
  rw [← hM]
  clear hM
  obtain ⟨c, r, l⟩ := P
  obtain ⟨hsd, hfr⟩ := Pc.chk_spec HPC.out hP
  have HP := Lib.hid hP
  have HF := Lib.hid hfr
  obtain ⟨hl, hc, hr, hcr⟩ := hPo
  simp only at hl hc hr hcr hRow
  have hcell0 := hcr
  clear hP hfr
  refine wp_world (fun W => Blk W M #[.int .i64 c, .int .i64 r, .slice bu l.length cu] 31 ∧ Pc.Nums W 0 (.slice bu l.length cu) l ∧ Pc.Run N w W) ⟨Blk.new' _ _ _ HM.out, Row.grow hRow ((Below.refl _ _).alloc (Nat.le_refl _) _), HR.next ((Below.refl _ _).alloc (Nat.le_refl _) _)⟩ ?_
  clear hRow HR hIs hB
  rintro W0 ⟨b0, hR, HR⟩
  have x0 := b0.cell 0
  have x1 := b0.cell 1
  have i0 : (0 : Int) ≤ i := by omega
  have i8 : (i : Int) < 8 := by omega
  go_wp2_with (first | (go_at_call 10; refine (sides_any _ _ _ _).mono ?_; rintro e w' ⟨rfl, rfl⟩))
  go_loopw [16] (fun i16 wr => ∃ a : Nat, a ≤ r ∧ i16 = .int .i64 a ∧ wr = W0) (fun i16 _ => r - (intOf i16).toNat)
  case atStart => exact ⟨0, by omega, rfl, rfl⟩
  case round =>
    obtain ⟨a, ha, rfl, rfl⟩ := hrel
    by_cases hlt : a < r
    · go_wp2_with fail
      rename World => W1
      go_loopw [17] (fun i17 wr => ∃ b : Nat, b ≤ c ∧ i17 = .int .i64 b ∧ wr = W1) (fun i17 _ => c - (intOf i17).toNat)
      case atStart => exact ⟨0, by omega, rfl, rfl⟩
      case round =>
        obtain ⟨b, hb, rfl, rfl⟩ := hrel
        by_cases hltb : b < c
        · obtain ⟨s, t, hs, ht, hst, hsum⟩ := HF.out a b hlt hltb
          have hq : a * c + b < l.length := by rw [hl, Nat.mul_comm c r]; exact Pc.under hlt hltb
          obtain ⟨g, rfl, hcell⟩ := Pc.cells_get' hR hq
          have cq := hcell _ hq
          obtain ⟨q, hqe⟩ : ∃ q, a * c + b = q := ⟨_, rfl⟩
          obtain ⟨y, hy⟩ : ∃ y, l.getD q 0 = y := ⟨_, rfl⟩
          rw [hqe] at cq hsum hq
          rw [hy] at cq hsum
          have x2 := b0.cell 2
          have hac : a * c ≤ 36 := by have h1 := Pc.under hlt hltb; rw [Nat.mul_comm r c] at h1; exact Nat.le_trans (Nat.le_trans (Nat.le_add_right _ _) (Nat.le_of_lt h1)) hcr
          have hsw : s * (wd + 1) ≤ 36 := by have := Nat.mul_le_mul hs (show wd + 1 ≤ 6 by omega); omega
          have hf := from_yes i (1 + (wd : Int)) (1 + (h : Int)) a b i0 i8 (by omega) (by omega) (by omega) (by omega) (by omega) (by omega) (by omega) (by omega)
          obtain ⟨x, hx⟩ : ∃ x, s * (wd + 1) = x := ⟨_, rfl⟩
          obtain ⟨z, hz⟩ : ∃ z, a * c = z := ⟨_, rfl⟩
          have k1 : wrap64 ((s : Int) * (1 + (wd : Int))) = (x : Int) := by
            rw [show (s : Int) * (1 + (wd : Int)) = ((s * (wd + 1) : Nat) : Int) by rw [Int.natCast_mul, show (1 : Int) + (wd : Int) = ((wd + 1 : Nat) : Int) by omega], hx]
            rw [hx] at hsw
            clear hf; unfold wrap64; omega
          have k2 : wrap64 ((a : Int) * (c : Int)) = (z : Int) := by
            rw [show (a : Int) * (c : Int) = ((a * c : Nat) : Int) by rw [Int.natCast_mul], hz]
            rw [hz] at hac
            clear hf k1; unfold wrap64; omega
          rw [hx] at hsum hsw
          rw [hz] at hqe hac
          have k3 : (x : Int) + (t : Int) = (y : Int) := by clear k1 k2 hf; omega
          have k4 : (z : Int) + (b : Int) = (q : Int) := by clear k1 k2 hf; omega
          have t3 : ((x : Int) + (t : Int) != (y : Int)) = false := by rw [k3]; simp
          rw [hst] at hf
          have HL := Lib.hid hl
          have v1 : Value.int .i64 (wrap64 ((s : Int) * (1 + (wd : Int)))) = .int .i64 x := by rw [k1]
          have v2 : Value.int .i64 (wrap64 ((a : Int) * (c : Int))) = .int .i64 z := by rw [k2]
          clear hcell hy hx hz hst hsum hl hqe k1 k2 k3
          go_wp2_with (first | (go_at_call 11; refine (hf _).mono ?_; rintro e w' ⟨rfl, rfl⟩))
          exact ⟨⟨b + 1, by omega, by go_num, trivial⟩, by simp [intOf]; omega⟩
        · obtain rfl : b = c := by omega
          go_wp2_with fail
          exact ⟨⟨a + 1, by omega, by go_num, trivial⟩, by simp [intOf]; omega⟩
    · obtain rfl : a = r := by omega
      obtain ⟨k, hk⟩ : ∃ k, (Tu.then_ i j).toNat = k := ⟨_, rfl⟩
      obtain ⟨k0, k8⟩ := Tu.then8 i j (by omega) (by omega) (by omega) (by omega)
      have T1 := Pc.then_all i hi j hj
      have hk8 : k < 8 := by omega
      have hthen : Tu.then_ i j = (k : Int) := by omega
      rw [hk] at T1
      obtain ⟨lb, hlb⟩ : ∃ k, (Tu.back i).toNat = k := ⟨_, rfl⟩
      have hb8 : 0 ≤ Tu.back i ∧ Tu.back i < 8 := by unfold Tu.back; split; exact Tu.swp8 i (by omega) (by omega); omega
      have T2 := Pc.back_all i hi
      have hlb8 : lb < 8 := by omega
      have hback : Tu.back i = (lb : Int) := by omega
      rw [hlb] at T2
      have hth := then_yes i j (by omega) (by omega) (by omega) (by omega)
      have hba := back_yes i (by omega) (by omega)
      rw [hthen] at hth
      rw [hback] at hba
      have hnm' := hnm.below HR.1 HNn
      clear hk hlb hthen hback k0 k8 hb8 hnm b0 hR x0 x1
      go_wp2_with (first
        | (go_at_call 12; refine (hth _).mono ?_; rintro e w' ⟨rfl, rfl⟩)
        | (go_at_call 16; refine (hba _).mono ?_; rintro e w' ⟨rfl, rfl⟩)
        | (go_at_call 13; refine (awake17 _ hnm').mono ?_; rintro e w' ⟨rfl, rfl⟩)
        | (go_at_call 14; refine (new_start _).mono ?_; rintro e w' ⟨v, rfl, hN0, hB⟩; replace HR := HR.next hB)
        | (go_at_call 15; refine (turn_any _ (by assumption) _ (Pc.turn_ok _ Pc.start_ok) _ _ hT1).mono ?_; clear hT1; rintro e w' ⟨v, rfl, hT2, hB⟩; replace HR := HR.next hB)
        | (go_at_call 15; refine (turn_any _ (by assumption) _ Pc.start_ok _ _ hN0).mono ?_; clear hN0; rintro e w' ⟨v, rfl, hT1, hB⟩; replace HR := HR.next hB)
        | (go_at_call 17; rw [T1] at hT2; refine (find_any k hk8 (Pc.min_all k hk8) _ _ hT2).mono ?_; clear hT2; rintro e w' ⟨rfl, hB⟩; replace HR := HR.next hB)
        | (go_at_call 17; rw [T2] at hT2; refine (find_any 0 (by omega) (Pc.min_all 0 (by omega)) _ _ hT2).mono ?_; clear hT2; rintro e w' ⟨rfl, hB⟩; replace HR := HR.next hB))
      go_ret
      exact ⟨rfl, HR.1⟩
end turnPictures
theorem turnPictures.core (a0 a1 a2 a3 : Int) (w0 : (Lit.int .u8 a0).wf = true) (w1 : (Lit.int .u8 a1).wf = true) (w2 : (Lit.int .u8 a2).wf = true) (w3 : (Lit.int .u8 a3).wf = true) (W : World) (hL : laidMetH Tryd.prog Rows.turnPicturesRow.laid W) :
    Calls Tryd.prog 4 #[.int .u8 a0, .int .u8 a1, .int .u8 a2, .int .u8 a3] W fun e w' => e = .returned (.bool true) ∧ Below W.heap.size W w' := by
  obtain ⟨b0, b0'⟩ := bounds_u8 w0
  obtain ⟨b1, b1'⟩ := bounds_u8 w1
  obtain ⟨b2, b2'⟩ := bounds_u8 w2
  obtain ⟨b3, b3'⟩ := bounds_u8 w3
  exact turnPictures.walk a0 a1 a2 a3 (a0 % 8).toNat (a1 % 8).toNat (a2 % 6).toNat (a3 % 6).toNat (by omega) (by omega) (by omega) (by omega) ⟨b0, b0'⟩ ⟨b1, b1'⟩ ⟨b2, b2'⟩ ⟨b3, b3'⟩ (by omega) (by omega) (by omega) (by omega) W (Tu.named_of hL)
end Go.Proofs.YtcdfamllamjpeaaDoor
