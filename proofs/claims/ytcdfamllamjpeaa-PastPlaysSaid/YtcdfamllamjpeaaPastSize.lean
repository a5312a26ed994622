/- Package past's Size, and its iterator over a nil past. -/
import Derived.Test.YtcdfamllamjpeaaPastAll
namespace Go.Proofs.Ytcdfamllamjpeaa
open Go.RowKit Go.Shelf
attribute [local go_sem] Oper.semAt_some
set_option maxRecDepth 100000
theorem past_stops_nil (n : Nat) (Bn : Nat) (w : World) (hBn : Bn < w.heap.size) (hc : w.cell? ⟨Bn, 0, none⟩ = some (.pointer none)) :
    SeqStopsK Fence.wide n Try.prog 24 #[.pointer (some ⟨Bn, 0, none⟩)] (fun x : Int × Pa.Ent => #[.int .i64 x.1, Pa.val x.2]) (KeepC w.heap.size) (fun ys => ys = []) (fun pre => pre = []) 0 w := by
  intro lp J Jx W hW hJ hJx hY h0
  have hcB := (hW.cell (p := ⟨Bn, 0, none⟩) hBn).trans hc
  refine callsIn_of_wp Try.func24 rfl trivial ?_ rfl
  simp only [Try.ntmps24, List.size_toArray, List.length_cons, List.length_nil, Nat.reduceAdd, Nat.reduceSub, Array.replicate_succ, Array.replicate_zero, List.push_toArray, List.append_toArray, List.nil_append, List.cons_append]
  gi_wp2
  refine bodyPost_ret (results_none rfl _ _ _) rfl ?_
  exact ⟨⟨_, rfl⟩, .inl h0⟩
/-- How much room these take. -/
def Pa.sum (l : List Pa.Ent) : Int := l.foldl (fun n e => wrap64 (n + e.2.1)) 0
theorem Pa.sum_snoc (l : List Pa.Ent) (e : Pa.Ent) : Pa.sum (l ++ [e]) = wrap64 (Pa.sum l + e.2.1) := by simp [Pa.sum]
theorem Pa.enum_map (l : List Pa.Ent) : (Pa.enum l).map (·.2) = l := by
  apply List.ext_getElem?
  intro i
  simp only [Pa.enum, List.map_map, List.getElem?_map]
  by_cases h : i < l.length
  · simp [h, Function.comp]
  · simp [h]
set_option maxHeartbeats 4000000 in
theorem past_size_of (p : Option Addr) (l : List Pa.Ent) (w : World)
    (hs : ∀ (n Bn : Nat) (w' : World), Below w.heap.size w w' → Bn < w'.heap.size → w'.cell? ⟨Bn, 0, none⟩ = some (.pointer p) → SeqStopsK Fence.wide n Try.prog 24 #[.pointer (some ⟨Bn, 0, none⟩)] (fun x : Int × Pa.Ent => #[.int .i64 x.1, Pa.val x.2]) (KeepC w'.heap.size) (fun ys => ys = Pa.enum l) (fun pre => pre <+: Pa.enum l) l.length w') :
    Calls Try.prog 21 #[.pointer p] w fun e w' => e = .returned (.int .i64 (Pa.sum l)) ∧ Below w.heap.size w w' := by
  refine (callsIn_wide (n := 9)).1 ?_
  refine callsIn_of_wp_marks Try.func21 rfl trivial ?_ rfl
  simp only [Try.ntmps21, List.size_toArray, List.length_cons, List.length_nil, Nat.reduceAdd, Nat.reduceSub, Array.replicate_succ, Array.replicate_zero, List.push_toArray, List.append_toArray, List.nil_append, List.cons_append]
  gi_wp2
  refine ⟨trivial, ?_⟩
  refine (callsIn_wide.2 (past_all p _)).mono ?_
  rintro e w1 ⟨rfl, rfl⟩
  gi_wp2
  obtain ⟨N, hN⟩ : ∃ N, N = w.heap.size := ⟨_, rfl⟩
  have bN : Blk ((w.alloc (.cells #[.int .i64 0] 3)).alloc (.cells #[.pointer p] 24)) N #[.int .i64 0] 3 := (Blk.new' _ _ _ hN).alloc _
  have bP : Blk ((w.alloc (.cells #[.int .i64 0] 3)).alloc (.cells #[.pointer p] 24)) (N + 1) #[.pointer p] 24 := Blk.new' _ _ _ (by simp [hN])
  have hB0 : Below N w ((w.alloc (.cells #[.int .i64 0] 3)).alloc (.cells #[.pointer p] 24)) := ((Below.refl _ w).alloc (by rw [hN]; exact Nat.le_refl _) _).alloc (by rw [hN]; simp) _
  have hsz : ((w.alloc (.cells #[.int .i64 0] 3)).alloc (.cells #[.pointer p] 24)).heap.size = N + 2 := by simp [hN]
  obtain ⟨W0, hW0⟩ : ∃ W0, (w.alloc (.cells #[.int .i64 0] 3)).alloc (.cells #[.pointer p] 24) = W0 := ⟨_, rfl⟩
  rw [hW0] at bN bP hB0 hsz ⊢
  clear hW0
  rw [← hN] at hs ⊢
  have hNw : N ≤ w.heap.size := by omega
  have HN := Lib.hid hN
  clear hN
  refine wpIn_rangeFunc_ownH rfl (by omega) (gf := 24) (lb := #[.pointer (some ⟨N + 1, 0, none⟩)]) rfl trivial (enters_of Try.func24 (by kernel_rfl) rfl)
    (hs _ (N + 1) W0 hB0 (by omega) (bP.cell 0)) keepC_t keepC_b (Below.refl _ _) (fun _ => rfl)
    (fun pre W => Blk W N #[.int .i64 (Pa.sum (pre.map (·.2)))] 3 ∧ Blk W (N + 1) #[.pointer p] 24 ∧ Below N w W)
    (fun _ _ _ => False)
    (OwnFrom.and (Own.from (own_blk (fun pre : List (Int × Pa.Ent) => #[.int .i64 (Pa.sum (pre.map (·.2)))]) N 3) _) (OwnFrom.and (Own.from (own_blk (fun _ => #[.pointer p]) (N + 1) 24) _) (ownFrom_below hNw (by omega))))
    (fun _ _ _ _ _ hs _ _ => hs)
    ⟨bN, bP, hB0⟩
    (fun x a' W => ∃ Bx, N + 1 < Bx ∧ Blk W Bx #[.int .i64 x.2.1, .int .i64 x.2.2.1, .int .i64 x.2.2.2] 29 ∧ a' = { tmps := #[.pointer p, undef, .int .i64 0, .pointer (some ⟨N, 0, none⟩), undef, .pointer (some ⟨Bx, 0, none⟩), .pointer p, .func (.func 24) #[] #[.pointer (some ⟨N + 1, 0, none⟩)], .int .i64 x.1, Pa.val x.2, undef, undef, undef, undef, undef], defers := [] })
    (fun x a' _ X Y row hs hg hr => by obtain ⟨Bx, h1, h2, h3⟩ := hs; exact ⟨Bx, h1, (CellsOf.of hg (fun r e => (hr r e).2)).blk h2, h3⟩)
    ?assign ?body ?done ?stop
  case assign =>
    rintro l pre x W K ⟨b1, bP1, hB1⟩ hK
    have hlW : N + 1 < W.heap.size := bP1.lt
    obtain ⟨S, hS⟩ : ∃ S, S = W.heap.size := ⟨_, rfl⟩
    have bZ : Blk (W.alloc (.cells #[.int .i64 0, .int .i64 0, .int .i64 0] 29)) S #[.int .i64 0, .int .i64 0, .int .i64 0] 29 := Blk.new' _ _ _ hS
    have hBa : Below S W ((W.alloc (.cells #[.int .i64 0, .int .i64 0, .int .i64 0] 29)).setRow S #[.int .i64 x.2.1, .int .i64 x.2.2.1, .int .i64 x.2.2.2]) := Below.setRow ((Below.refl _ _).alloc (by rw [hS]; exact Nat.le_refl _) _) (Nat.le_refl _) _
    simp only [Pa.val]
    rw [hS] at bZ hBa
    gi_wp2_with (refine wpListIn_store_row ⟨some l, rfl⟩ rfl 29 _ _ rfl W.heap.size _ rfl rfl 29 _ bZ (by kernel_rfl) rfl (by simp [Value.oneCell']) ?_)
    have hsW := hB1.size
    exact hK _ _ (KeepsFrom.of_below hBa) (KeepC.below hBa) ⟨b1.below hBa b1.lt, bP1.below hBa bP1.lt, hB1.trans (hBa.mono (by omega))⟩ ⟨W.heap.size, hlW, bZ.row _, rfl⟩
  case body =>
    rintro l pre x a' W hl ⟨r, hr⟩ ⟨b1, bP1, hB1⟩ ⟨Bx, hBx, bX, rfl⟩ hlt
    have c1 := b1.cell 0
    have f1 := b1.free 0
    have c2 := bX.cell 1
    gi_wp2
    refine ⟨(KeepsOthers.setCell _ _ _).from _, KeepC.set _ _ _ (by simp only; omega), ?_, bP1.other _ _ (by simp), hB1.setCell (p := ⟨N, 0, none⟩) (Nat.le_refl _) _⟩
    simp only [List.map_append, List.map_cons, List.map_nil]
    rw [Pa.sum_snoc]
    exact b1.set 0 _
  case done =>
    rintro D ys W hD rfl ⟨b1, bP1, hB1⟩ hK
    have c1 := b1.cell 0
    gi_wp2
    refine ⟨by simp, .inl ⟨_, _, rfl, run_takeDeferred hK, ?_⟩⟩
    rw [Pa.enum_map]
    exact ⟨_, results_tmp rfl _ _ _, rfl, by rw [← HN.out]; exact hB1.trans (belowK_b (w := W0) (by omega) W D _ _ (by omega) hK rfl rfl)⟩
  case stop =>
    rintro D c pre W _ _ h _
    exact h.elim
theorem past_size (b most : Nat) (u : Value) (l : List Pa.Ent) (hl : l.length ≤ 100000) (w : World) (hA : Pa.At w b most u l) :
    Calls Try.prog 21 #[.pointer (some ⟨b, 0, none⟩)] w fun e w' => e = .returned (.int .i64 (Pa.sum l)) ∧ Below w.heap.size w w' :=
  past_size_of _ l w fun n Bn w' hb hBn hc => past_stops n b most u l hl Bn w' hBn hc (hA.below hb)
theorem past_size_nil (w : World) : Calls Try.prog 21 #[.pointer none] w fun e w' => e = .returned (.int .i64 0) ∧ Below w.heap.size w w' :=
  past_size_of none [] w fun n Bn w' hb hBn hc => by
    have := past_stops_nil n Bn w' hBn hc
    simpa [Pa.enum] using this
end Go.Proofs.Ytcdfamllamjpeaa
