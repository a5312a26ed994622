/- Package past's iterator over all entries, as a contract for ranges over it. -/
import Derived.Test.YtcdfamllamjpeaaPastLaw
import Derived.Test.YtcdfamllamjpeaaRange
import Derived.Test.YtcdfamllamjpeaaRowApp
import Derived.Lib.SliceRun
namespace Go.Proofs.Ytcdfamllamjpeaa
open Go.RowKit Go.Shelf
attribute [local go_sem] Oper.semAt_some
set_option maxRecDepth 100000
/-- The method value: the receiver is boxed. -/
theorem past_all (v : Option Addr) (w : World) : Calls Try.prog 15 #[.pointer v] w fun e w' => e = .returned (.func (.func 24) #[] #[.pointer (some ⟨w.heap.size, 0, none⟩)]) ∧ w' = w.alloc (.cells #[.pointer v] 24) := by
  go_enter Try.func15, Try.ntmps15
  go_wp2_with fail
  go_ret
  exact ⟨rfl, rfl⟩
theorem past_clone_nil (w : World) : Calls Try.prog 25 #[.slice none 0 0] w fun e w' => e = .returned (.slice none 0 0) ∧ w' = w := by
  have hn0 : ∀ W, (binOp .eql 59 (.slice none 0 0) (.slice none 0 0)).run Try.prog W = .ok (.bool true) W := fun W => Lib.run_eql_slice_nil W 59 29 none 0 0 0 0 Try.underlying59
  go_enter Try.func25, Try.ntmps25
  go_wp2_with fail
  go_ret
  exact ⟨rfl, rfl⟩
theorem past_clone (g n cap : Nat) (xs : List Value) (hn : n ≤ 100000) (w : World) (hg : g < w.heap.size) (hx : xs.length = n * 3) (h1 : ∀ u ∈ xs, u.oneCell' = true) (hc : ∀ i, i < n * 3 → w.cell? ⟨g, i, none⟩ = xs[i]?) :
   Calls Try.prog 25 #[.slice (some ⟨g, 0, none⟩) n cap] w fun e w' => ∃ u, e = .returned u ∧ Row w' w.heap.size 29 3 u n xs ∧ Below w.heap.size w w' := by
  have hn0 : ∀ W, (binOp .eql 59 (.slice (some ⟨g, 0, none⟩) n cap) (.slice none 0 0)).run Try.prog W = .ok (.bool false) W := fun W => Lib.run_eql_slice_nil W 59 29 _ _ _ 0 0 Try.underlying59
  obtain ⟨N, hN⟩ : ∃ N, N = w.heap.size := ⟨_, rfl⟩
  have HN := Lib.hid hN
  rw [← hN] at hg
  rw [← hN]
  clear hN
  go_enter Try.func25, Try.ntmps25
  have hnews : ∀ (w' : World) j v, Below N w w' → xs[j]? = some v → w'.cell? ((⟨g, 0, none⟩ : Addr).add j) = some v := by
    intro w' j v hb hv
    have hj : j < xs.length := (List.getElem?_eq_some_iff.1 hv).1
    have e : (⟨g, 0, none⟩ : Addr).add j = ⟨g, j, none⟩ := by unfold Addr.add; split <;> simp_all
    rw [e, hb.cell (p := ⟨g, j, none⟩) hg, hc j (by omega), hv]
  have hB1 : Below N w (w.alloc (.cells #[] 29)) := (Below.refl _ _).alloc (by rw [HN.out]; exact Nat.le_refl _) _
  have hE : Row (w.alloc (.cells #[] 29)) N 29 3 (.slice (some ⟨w.heap.size, 0, none⟩) 0 0) 0 [] := Row.empty (Blk.new _ _ _) (by rw [HN.out]; exact Nat.le_refl _)
  go_wp2_with (refine wpList_append_any _ rfl _ _ 59 rfl N 29 _ _ 3 24 rfl rfl rfl rfl rfl rfl _ 0 [] rfl hE ⟨g, 0, none⟩ n _ xs rfl hx (fun j v => hnews _ j v hB1) h1 (by simp only [maxLen]; omega) (by omega) (by simp; rw [HN.out]; omega) (fun v' w3 hR1 hg3 hat => ?_))
  go_ret
  refine ⟨_, rfl, by simpa using hR1, Below.grown hB1 (by simp; rw [HN.out]; omega) hg3 (fun k e => by cases e; exact Nat.le_of_eq HN.out)⟩
theorem past_clone_row {lo : Nat} {u : Value} {n : Nat} {xs : List Value} (w : World) (h : Row w lo 29 3 u n xs) (hn : n ≤ 100000) (h1 : ∀ u ∈ xs, u.oneCell' = true) :
   Calls Try.prog 25 #[u] w fun e w' => ∃ u, e = .returned u ∧ Row w' w.heap.size 29 3 u n xs ∧ Below w.heap.size w w' := by
  have hx := h.1
  rcases h.2 with ⟨rfl, rfl⟩ | ⟨g, cap, cur, rfl, h2, h3, h4, h5, h6, h7⟩
  · obtain rfl : xs = [] := List.eq_nil_of_length_eq_zero (by simpa using hx)
    exact (past_clone_nil w).mono fun e w' ⟨h1, h2⟩ => ⟨_, h1, Row.nil _ _ _ _, by rw [h2]; exact Below.refl _ _⟩
  · refine past_clone g n cap xs hn w h3.lt hx h1 fun i hi => ?_
    rw [h3.cell, ← h7, List.getElem?_take, if_pos hi]
    simp
namespace Pa
theorem cells_one (l : List Ent) : ∀ u ∈ cells l, u.oneCell' = true := by
  intro v hv
  simp only [cells, List.mem_flatMap, ent] at hv
  obtain ⟨e, _, hv⟩ := hv
  simp at hv
  rcases hv with rfl | rfl | rfl <;> rfl
theorem cells_get (l : List Ent) (i : Nat) (hi : i < l.length) : (cells l)[i * 3]? = some (.int .i64 (l.getD i (0, 0, 0)).1) ∧ (cells l)[i * 3 + 1]? = some (.int .i64 (l.getD i (0, 0, 0)).2.1) ∧ (cells l)[i * 3 + 2]? = some (.int .i64 (l.getD i (0, 0, 0)).2.2) := by
  induction l generalizing i with
  | nil => simp at hi
  | cons e l ih =>
    rw [cells_cons]
    cases i with
    | zero => simp [ent]
    | succ i =>
      have := ih i (by simpa using hi)
      have e3 : (i + 1) * 3 = i * 3 + 3 := by omega
      rw [e3, List.getElem?_append_right (by simp [ent]), List.getElem?_append_right (by simp [ent]), List.getElem?_append_right (by simp [ent])]
      simpa [ent] using this
/-- The entries with their numbers. -/
def enum (l : List Ent) : List (Int × Ent) := (List.range l.length).map fun (i : Nat) => ((i : Int), l.getD i (0, 0, 0))
theorem enum_len (l : List Ent) : (enum l).length = l.length := by simp [enum]
theorem enum_succ (l : List Ent) (i : Nat) (h : i < l.length) : (enum l).take (i + 1) = (enum l).take i ++ [((i : Int), l.getD i (0, 0, 0))] := by
  rw [List.take_add_one]
  simp [enum, h]
end Pa
set_option maxHeartbeats 2000000 in
theorem past_stops (n b most : Nat) (u : Value) (l : List Pa.Ent) (hl : l.length ≤ 100000) (Bn : Nat) (w : World) (hBn : Bn < w.heap.size) (hc : w.cell? ⟨Bn, 0, none⟩ = some (.pointer (some ⟨b, 0, none⟩))) (hA : Pa.At w b most u l) :
    SeqStopsK Fence.wide n Try.prog 24 #[.pointer (some ⟨Bn, 0, none⟩)] (fun x : Int × Pa.Ent => #[.int .i64 x.1, Pa.val x.2]) (KeepC w.heap.size) (fun ys => ys = Pa.enum l) (fun pre => pre <+: Pa.enum l) l.length w := by
  intro lp J Jx W hW hJ hJx hY h0
  have hsz := hW.size
  have hA' := hA.below hW
  have hcB := (hW.cell (p := ⟨Bn, 0, none⟩) hBn).trans hc
  have q1 := hA'.box.cell 1
  obtain ⟨N, hN⟩ : ∃ N, N = W.heap.size := ⟨_, rfl⟩
  have HN := Lib.hid hN
  rw [← hN] at hsz
  refine callsIn_of_wp Try.func24 rfl trivial ?_ rfl
  simp only [Try.ntmps24, List.size_toArray, List.length_cons, List.length_nil, Nat.reduceAdd, Nat.reduceSub, Array.replicate_succ, Array.replicate_zero, List.push_toArray, List.append_toArray, List.nil_append, List.cons_append]
  gi_wp2
  refine ⟨trivial, fun h => (by cases h), ?_⟩
  refine (callsIn_wide.2 (past_clone_row W hA'.row hl (Pa.cells_one l))).mono ?_
  rintro e w3 ⟨uc, rfl, hR, hB⟩
  obtain ⟨gc, cc, rfl⟩ := hR.len
  gi_wp2
  gi_loopw [13] (fun v wr => ∃ i : Nat, v = .int .i64 i ∧ i ≤ l.length ∧ J ((Pa.enum l).take i) wr ∧ Row wr W.heap.size 29 3 (.slice gc l.length cc) l.length (Pa.cells l))
    (fun v wr => l.length - (intOf v).toNat)
  case atStart =>
    refine ⟨0, rfl, Nat.zero_le _, ?_, hR⟩
    simp only [List.take_zero]
    exact hJ _ _ _ none h0 ⟨hB.os, hB.tape, hB.output, hB.size, fun k hk _ => hB.block k hk⟩ (fun r e => by cases e)
  case round =>
    obtain ⟨i, rfl, hi, hJi, hRi⟩ := hrel
    have tb : decide ((i : Int) < (l.length : Int)) = decide (i < l.length) := by simp
    by_cases hlt : i < l.length
    · have tt : decide ((i : Int) < (l.length : Int)) = true := by simpa using hlt
      obtain ⟨g, cap, hu, hgl, hgs, hcs⟩ := hRi.cells (by omega)
      cases hu
      have hc0 := (hcs (i * 3) (by omega)).trans (Pa.cells_get l i hlt).1
      have hc1 := (hcs (i * 3 + 1) (by omega)).trans (Pa.cells_get l i hlt).2.1
      have hc2 := (hcs (i * 3 + 2) (by omega)).trans (Pa.cells_get l i hlt).2.2
      clear hcs
      have hx0 : (0 : Int) ≤ (i : Int) := by omega
      have hx1 : (i : Int) < (l.length : Int) := by omega
      have hsucc := Pa.enum_succ l i hlt
      obtain ⟨x, hx⟩ : ∃ x, l.getD i (0, 0, 0) = x := ⟨_, rfl⟩
      obtain ⟨x1, x2, x3⟩ := x
      rw [hx] at hc0 hc1 hc2 hsucc
      simp only at hc0 hc1 hc2
      obtain ⟨S, hS⟩ : ∃ S, S = wr.heap.size := ⟨_, rfl⟩
      have hBa : Below wr.heap.size wr ((wr.alloc (.cells #[.int .i64 0, .int .i64 0, .int .i64 0] 29)).setRow S #[.int .i64 x1, .int .i64 x2, .int .i64 x3]) := Below.setRow ((Below.refl _ _).alloc (Nat.le_refl _) _) (by rw [hS]; exact Nat.le_refl _) _
      have bZ : Blk (wr.alloc (.cells #[.int .i64 0, .int .i64 0, .int .i64 0] 29)) S #[.int .i64 0, .int .i64 0, .int .i64 0] 29 := Blk.new' _ _ _ hS
      have bX := bZ.row #[.int .i64 x1, .int .i64 x2, .int .i64 x3]
      obtain ⟨fn, tmps, assign, body, hy, hRd⟩ := hY ((Pa.enum l).take i) ((i : Int), (x1, x2, x3)) ((wr.alloc (.cells #[.int .i64 0, .int .i64 0, .int .i64 0] 29)).setRow S #[.int .i64 x1, .int .i64 x2, .int .i64 x3])
        (hJ _ _ _ none hJi ⟨hBa.os, hBa.tape, hBa.output, hBa.size, fun k hk _ => hBa.block k hk⟩ (fun r e => by cases e)) (by rw [List.length_take, Pa.enum_len]; omega)
      have hRb := hRi.grow hBa
      rw [hS] at *
      simp only [Pa.val] at hy
      gi_wp2_with (first | (refine wpListIn_load_row ⟨none, rfl⟩ rfl 29 _ rfl wr.heap.size rfl 29 _ _ _ bX Try.underlying29 rfl (by kernel_rfl) ?_) | (refine wpListIn_store_row ⟨none, rfl⟩ rfl 29 _ _ rfl wr.heap.size _ rfl rfl 29 _ bZ (by kernel_rfl) rfl (by simp [Value.oneCell']) ?_))
      refine ⟨fun h => (by cases h), hRd.mono ?_⟩
      rintro e W3 (⟨rfl, hJ3, hk3⟩ | ⟨rfl, hJx3⟩)
      · have hR3 := hRb.keepC hk3 hW.size
        gi_wp2
        go_roundw
        case rel => exact ⟨i + 1, rfl, hlt, by rw [hsucc]; exact hJ3, hR3⟩
        case measure =>
          simp only [intOf]
          omega
      · gi_wp2
        refine bodyPost_ret (results_none rfl _ _ _) rfl ?_
        exact ⟨⟨_, rfl⟩, .inr ⟨(Pa.enum l).take (i + 1), List.take_prefix _ _, by rw [hsucc]; exact hJx3⟩⟩
    · have tf : decide ((i : Int) < (l.length : Int)) = false := by simpa using hlt
      gi_wp2
      go_end0
      obtain rfl : i = l.length := by omega
      rw [List.take_of_length_le (by rw [Pa.enum_len]; exact Nat.le_refl _)] at hJi
      exact ⟨⟨_, rfl⟩, .inl ⟨_, rfl, hJi⟩⟩
end Go.Proofs.Ytcdfamllamjpeaa
