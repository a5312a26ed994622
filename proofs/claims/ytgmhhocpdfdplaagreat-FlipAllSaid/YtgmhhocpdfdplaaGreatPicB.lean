/- The document's little picture: its functions' walks. -/
import Derived.Test.YtgmhhocpdfdplaaGreatGB
import Derived.Test.YtgmhhocpdfdplaaGreatGA
import Derived.Test.YtgmhhocpdfdplaaGreatGK
namespace Go.Proofs.YtgmhhocpdfdplaaGreat
open Go.RowKit
namespace Pc
/-- A list of small numbers, as cells. -/
def cells (l : List Nat) : List Value := l.map fun x : Nat => Value.int .i64 (x : Int)
theorem cells_len (l : List Nat) : (cells l).length = l.length := by simp [cells]
theorem cells_get (l : List Nat) (i : Nat) (h : i < l.length) : (cells l)[i]? = some (.int .i64 (l.getD i 0 : Nat)) := by
  simp [cells, List.getElem?_map, List.getD_eq_getElem?_getD, List.getElem?_eq_getElem h]
theorem cells_add (l : List Nat) (x : Nat) : cells l ++ [.int .i64 x] = cells (l ++ [x]) := by simp [cells]
/-- A picture as a value: columns, rows, the slice of its numbers. -/
def Is (w : World) (lo : Nat) (v : Value) (c r : Nat) (l : List Nat) : Prop := ∃ u, v = .agg #[.int .i64 c, .int .i64 r, u] ∧ Row w lo 3 1 u l.length (cells l)
end Pc
set_option maxRecDepth 100000 in
theorem new_any (c r : Nat) (hcr : c * r ≤ 16384) (_hc : c ≤ 16384) (_hr : r ≤ 16384) (w : World) : Calls Tryz.prog 16 #[.int .i64 c, .int .i64 r] w fun e w' => ∃ v, e = .returned v ∧ Pc.Is w' 0 v c r (List.range (c * r)) ∧ Below w.heap.size w w' := by
  obtain ⟨N, hN⟩ : ∃ N, N = w.heap.size := ⟨_, rfl⟩
  have HN := Lib.hid hN
  rw [← hN]
  clear hN
  obtain ⟨m, hm⟩ : ∃ m, c * r = m := ⟨_, rfl⟩
  have hmi : (c:Int) * (r:Int) = (m : Int) := by rw [← hm]; exact Int.natCast_mul ..
  rw [hm] at hcr ⊢
  have hmw : wrap64 ((c:Int) * (r:Int)) = (m : Int) := by rw [hmi]; unfold wrap64; omega
  have HM := Lib.hid hmw
  clear hm hmi hmw
  go_enter Tryz.func16, Tryz.ntmps16
  go_wp2_with fail
  refine wp_world (fun W => Blk W N #[.int .i64 0, .int .i64 0, .slice none 0 0] 61 ∧ Blk W (N+1) #[.int .i64 c, .int .i64 r, .slice none 0 0] 61 ∧ Below N w W) ⟨?_, ?_, ?_⟩ ?_
  · exact (Blk.new' _ _ _ HN.out).alloc _
  · exact (Blk.new' _ _ _ (by rw [HN.out]; simp))
  · exact (((Below.refl _ _).alloc (by rw [HN.out]; exact Nat.le_refl _) _).alloc (by rw [HN.out]; simp) _)
  rintro W0 ⟨b0, b1, hB⟩
  rw [← HN.out]
  go_loopw [6] (fun i wr => ∃ (j : Nat) (u : Value), j ≤ m ∧ i = .int .i64 j ∧ Blk wr N #[.int .i64 0, .int .i64 0, .slice none 0 0] 61 ∧ Blk wr (N+1) #[.int .i64 c, .int .i64 r, u] 61 ∧ Row wr (N+2) 3 1 u j (Pc.cells (List.range j)) ∧ Below N w wr) (fun i _ => m - (intOf i).toNat)
  case atStart => exact ⟨0, _, by omega, rfl, b0, b1, Row.nil _ _ _ _, hB⟩
  case round =>
    clear b0 b1 hB
    obtain ⟨j, u, hj, rfl, b0, b1, hR, hB⟩ := hrel
    obtain ⟨bu, cu, rfl⟩ := hR.len
    by_cases hlt : j < m
    · have t1 : decide ((j:Int) < wrap64 ((c:Int) * (r:Int))) = true := by rw [HM.out]; simpa using hlt
      have c2 := b1.cell 2
      have f2 := b1.free 2
      have sz := b1.lt
      go_wp2_with (refine wpList_append_Row _ rfl _ _ 59 rfl (N+2) 3 _ _ 1 8 rfl rfl rfl rfl rfl rfl _ j _ rfl (hR.grow ((Below.refl _ _).alloc (Nat.le_refl _) _)) _ 1 1 [.int .i64 j] rfl (by omega) rfl (Blk.new _ _ _).one (by intro u hu; simp at hu; subst hu; rfl) (by simp only [maxLen]; omega) (by omega) (by simp; omega) (fun v' w1 hR1 hg hat => ?_); obtain ⟨bv, cv, rfl⟩ := hR1.len; have hne := (hR.typed b1 (by decide)); have b1' := (b1.alloc (.cells #[.int .i64 j] 3)).grown hg (fun e => hne _ e.symm rfl); have c2' := b1'.cell 2; have f2' := b1'.free 2)
      refine ⟨⟨j + 1, .slice bv (j+1) cv, by omega, by go_num, ?_, b1'.set 2 _, ?_, ?_⟩, by simp [intOf]; omega⟩
      · exact ((b0.alloc _).grown hg (fun e => (hR.typed b0 (by decide)) _ e.symm rfl)).other _ _ (by show N ≠ N + 1; omega)
      · rw [Pc.cells_add, ← List.range_succ] at hR1
        exact hR1.other _ _ (hR1.typed b1' (by decide))
      · refine (Below.grown (hB.alloc (by rw [HN.out]; exact hB.size) _) ?_ hg (fun g h => ?_)).setCell (by show N ≤ N + 1; omega) _
        · simp; omega
        · have := (hR.lt g h).1; omega
    · obtain rfl : j = m := by omega
      have t1 : decide ((j:Int) < wrap64 ((c:Int) * (r:Int))) = false := by rw [HM.out]; simp
      go_wp2_with (first | (refine wpList_load_row rfl 61 _ rfl (N+1) rfl 61 _ _ _ b1 Tryz.underlying61 rfl (by kernel_rfl) ?_) | (refine wpList_store_row rfl 61 _ _ rfl N _ rfl rfl 61 _ b0 (by kernel_rfl) rfl (by simp [Value.oneCell']) ?_))
      refine bodyPost_ret (results_cell_row rfl _ _ N 61 _ _ _ rfl (b0.row _) Tryz.underlying61 rfl (by kernel_rfl)) rfl ?_
      refine ⟨_, rfl, ⟨_, rfl, ?_⟩, Below.setRow hB (Nat.le_refl _) _⟩
      rw [List.length_range]
      exact (hR.same fun g hg => setRow_other _ N g _ (hR.typed b0 (by decide) g hg)).down (by omega)
end Go.Proofs.YtgmhhocpdfdplaaGreat
