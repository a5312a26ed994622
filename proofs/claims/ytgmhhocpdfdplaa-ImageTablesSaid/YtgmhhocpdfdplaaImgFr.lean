/- Package image: Frame. -/
import Derived.Test.YtgmhhocpdfdplaaNewF
import Derived.Test.YtgmhhocpdfdplaaOpenImg
namespace Go.Proofs.Ytgmhhocpdfdplaa
open Go.RowKit
set_option maxRecDepth 100000
set_option maxHeartbeats 8000000
def psOf (cs : List CompArg) : List (Int × Int) := cs.map fun c => (c.h, c.v)
def frE (x : ImgArg) : Int := newE x.w x.h (psOf x.cs)
def frG (x : ImgArg) : List GridV := gridsN x.w x.h (partsOf (psOf x.cs))
def PsRow (w : World) (N : Nat) (u : Value) (cs : List CompArg) (k : Nat) : Prop := Row w N 154 2 u k ((psOf (cs.take k)).map partC).flatten
theorem PsRow.step {w : World} {N : Nat} {u : Value} {cs : List CompArg} {k : Nat} (hk : k < cs.length) {a b : Int} (ha : (cs[k]'hk).h = a) (hb : (cs[k]'hk).v = b)
    (h : Row w N 154 2 u (k + 1) (((psOf (cs.take k)).map partC).flatten ++ [.int .i64 a, .int .i64 b])) : PsRow w N u cs (k + 1) := by
  unfold PsRow
  have e : ((psOf (cs.take (k + 1))).map partC).flatten = ((psOf (cs.take k)).map partC).flatten ++ [.int .i64 a, .int .i64 b] := by
    unfold psOf
    rw [List.take_succ_eq_append_getElem hk, List.map_append, List.map_append, List.flatten_append]
    simp only [List.map_cons, List.map_nil, List.flatten_cons, List.flatten_nil, partC, ha, hb, List.append_nil]
  rw [e]
  exact h
/-- The image in block N, its parts so far. -/
structure FrI (N : Nat) (x : ImgArg) (u : Value) (k : Nat) (w W : World) : Prop where
  bN : Blk W N #[.int .i64 x.w, .int .i64 x.h, x.cu, x.qu, x.tu] 26
  row : PsRow W N u x.cs k
  hB : Below N w W
theorem FrI.below {N : Nat} {x : ImgArg} {u : Value} {k : Nat} {w W W' : World} (h : FrI N x u k w W) (hb : Below W.heap.size W W') : FrI N x u k w W' :=
  ⟨h.bN.below hb h.bN.lt, Row.grow h.row hb, h.hB.trans (hb.mono (Nat.le_of_lt h.bN.lt))⟩
theorem img_frame (x : ImgArg) (w : World) (h : IsImg w x.val x) (hf : x.cs.length ≤ 20) :
    Calls Try.prog 48 #[x.val] w fun r w' => ∃ f, r = .returned (.tuple #[f, .int .i64 (frE x)]) ∧ Below w.heap.size w w' ∧ (frE x ≠ 0 → f = .pointer none) ∧ (frE x = 0 → ∃ F, f = .pointer (some ⟨F, 0, none⟩) ∧ IsFr w' F (frG x)) := by
  obtain ⟨cb, ccap, hcu⟩ : ∃ b cap, x.cu = .slice b x.cs.length cap := h.cs.len
  have HCU := Lib.hid hcu
  unfold ImgArg.val at *
  have hnew := fun pb cap W hp => fr_new x.w x.h pb cap (psOf x.cs) (by simp [psOf]; omega) W hp
  have hlp : (psOf x.cs).length = x.cs.length := by simp [psOf]
  rw [hlp] at hnew
  unfold frE frG
  generalize newE x.w x.h (psOf x.cs) = E at *
  obtain ⟨GS, hGS⟩ : ∃ gs, gridsN x.w x.h (partsOf (psOf x.cs)) = gs := ⟨_, rfl⟩
  rw [hGS] at hnew ⊢
  clear hGS
  obtain ⟨N, hN⟩ : ∃ N, N = w.heap.size := ⟨_, rfl⟩
  have HN := Lib.hid hN
  rw [← hN]
  have HLP := Lib.hid hlp
  have HNEW := Lib.hid hnew
  have hbe : Below w.heap.size w (w.alloc (.cells #[.int .i64 x.w, .int .i64 x.h, x.cu, x.qu, x.tu] 26)) := (Below.refl _ _).alloc (Nat.le_refl _) _
  clear hN hlp hnew hcu
  go_enter Try.func48, Try.ntmps48
  go_upto_region 2 with fail
  rw [← HN.out]
  refine wp_world (fun W => FrI N x (.slice none 0 0) 0 w W) ⟨Blk.new' _ _ _ HN.out, Row.nil _ _ _ _, by rw [HN.out]; exact hbe⟩ ?_
  clear hbe
  intro W0 hI
  have q2 : W0.cell? ⟨N, 2, none⟩ = some (.slice cb x.cs.length ccap) := by rw [← HCU.out]; exact hI.bN.cell 2
  go_wp2
  clear q2
  go_loopw [10, 4] (fun iv uv wr => ∃ k : Nat, k ≤ x.cs.length ∧ iv = .int .i64 k ∧ FrI N x uv k w wr) (fun iv _ _ => x.cs.length - (intOf iv).toNat)
  case atStart => exact ⟨0, Nat.zero_le _, rfl, hI⟩
  case round =>
    clear hI
    obtain ⟨k, hk, rfl, hI⟩ := hrel
    obtain ⟨bu, cu, rfl⟩ := Row.len hI.row
    by_cases hlt : k < x.cs.length
    · have tl : decide (k < x.cs.length) = true := by simpa using hlt
      have hcs : IsComps w (.slice cb x.cs.length ccap) x.cs := by rw [← HCU.out]; exact h.cs
      obtain ⟨a, rfl, c0, c1, c2, c3, c4, c5, c6⟩ := (hcs.below (by rw [← HN.out]; exact hI.hB)).at hlt
      have j0 : (0 : Int) ≤ (k : Int) := by omega
      have j1 : (k : Int) < (x.cs.length : Int) := by omega
      obtain ⟨ha, eha⟩ : ∃ a, (x.cs[k]'hlt).h = a := ⟨_, rfl⟩
      obtain ⟨va, eva⟩ : ∃ a, (x.cs[k]'hlt).v = a := ⟨_, rfl⟩
      rw [eha] at c1
      rw [eva] at c2
      have hu : ∃ ub un ucap, (x.cs[k]'hlt).u = .slice ub un ucap := by
        obtain ⟨ub, ucap, hu, _⟩ := (hcs.ok _ (List.getElem_mem hlt)).ar.len
        exact ⟨ub, _, ucap, hu⟩
      obtain ⟨ub, un, ucap, hu⟩ := hu
      rw [hu] at c6
      have HA := Lib.hid eha; have VA := Lib.hid eva
      clear hcs eha eva hu
      generalize (x.cs[k]'hlt).id = x0 at *
      generalize (x.cs[k]'hlt).q = x3 at *
      generalize (x.cs[k]'hlt).c = x4 at *
      generalize (x.cs[k]'hlt).r = x5 at *
      obtain ⟨M, hM⟩ : ∃ M, M = wr.heap.size := ⟨_, rfl⟩
      go_upto_region 5 with fail
      refine wp_world (fun W => Blk W M #[.int .i64 x0, .int .i64 ha, .int .i64 va, .int .i64 x3, .int .i64 x4, .int .i64 x5, .slice ub un ucap] 63 ∧ FrI N x (.slice bu k cu) k w W) ⟨Blk.new' _ _ _ hM, hI.below ((Below.refl _ _).alloc (Nat.le_refl _) _)⟩ ?_
      rw [← hM]
      clear hM hI c0 c1 c2 c3 c4 c5 c6
      rintro W ⟨bM, hI⟩
      have q1 := bM.cell 1
      have q2 := bM.cell 2
      have hNl := hI.bN.lt
      go_wp2_with (refine wpList_append_Row _ rfl _ _ 153 rfl N 154 _ _ 2 16 rfl rfl rfl rfl rfl rfl _ _ _ rfl (Row.grow hI.row ((Below.refl _ _).alloc (Nat.le_refl _) _)) _ 1 1 [.int .i64 ha, .int .i64 va] rfl (by omega) rfl ((Blk.new _ _ _).cells) (by intro u hu; simp at hu; rcases hu with rfl | rfl <;> rfl) (by simp only [maxLen]; omega) (by omega) (by simp; omega) (fun v' w2 hR1 hg hat => ?_))
      obtain ⟨b2, c2, rfl⟩ := hR1.len
      go_roundw
      case rel =>
        refine ⟨k + 1, by omega, by go_num, ⟨?_, PsRow.step hlt HA.out VA.out hR1, ?_⟩⟩
        · exact (hI.bN.alloc _).grown hg (fun e => hI.row.typed hI.bN (by decide) N e.symm rfl)
        · exact Below.grown (hI.hB.alloc (by omega) _) (by simp; omega) hg (fun g e => (hI.row.lt g e).1)
      case measure => simp [intOf]; omega
    · obtain rfl : k = x.cs.length := by omega
      have tl : decide (x.cs.length < x.cs.length) = false := by simp
      have hp : IsParts wr (.slice bu x.cs.length cu) (psOf x.cs) := by
        have hr := hI.row
        unfold PsRow at hr
        rw [List.take_length] at hr
        exact Ar.elems hr.ar (fun c hc => by obtain ⟨p, _, rfl⟩ := List.mem_map.1 hc; rfl) (by simp [psOf]) (by simp only [maxLen]; omega)
      have hn := HNEW.out _ _ _ hp
      have q0 := hI.bN.cell 0
      have q1 := hI.bN.cell 1
      clear hp
      go_wp2_with (go_at_call 101; refine hn.mono ?_; rintro r w1 ⟨f, rfl, hb1, hf1, hf2⟩)
      go_ret2
      exact ⟨f, rfl, hI.hB.trans (hb1.mono (Nat.le_of_lt hI.bN.lt)), hf1, hf2⟩
end Go.Proofs.Ytgmhhocpdfdplaa
