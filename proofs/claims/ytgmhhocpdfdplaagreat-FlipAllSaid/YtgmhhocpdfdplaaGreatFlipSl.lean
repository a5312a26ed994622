/- The reference's Image of turns, where the turn keeps the sides. -/
import Derived.Test.YtgmhhocpdfdplaaGreatFlipS
namespace Go.Proofs.YtgmhhocpdfdplaaGreat
open Go.RowKit
set_option maxRecDepth 100000
set_option maxHeartbeats 16000000
theorem ref_image18_lo (x : ImgArg) (hf : FewOk x) (k : Nat) (h0 : mayE x k = 0) (h4 : ¬ 4 ≤ k) (w : World) (hI : IsImg w x.val x) :
    Calls Tryz.prog 8 #[x.val, .int .i64 k] w fun r w' => RefRes8 (flipI x k) 0 r w' ∧ Below w.heap.size w w' := by
  have HI := Lib.hid hI
  have HF := Lib.hid hf
  have hc20 := hf.c20
  have hq20 := hf.q20
  obtain ⟨cb, ccap, hcu⟩ := hI.cs.len
  obtain ⟨qb0, qcap0, hqu⟩ := hI.qs.len
  obtain ⟨tb, tcap, htu⟩ := hI.ts.len
  have HCU := Lib.hid hcu; have HQU := Lib.hid hqu; have HTU := Lib.hid htu
  have hL := LI.begin hI
  obtain ⟨N, hN⟩ : ∃ N, N = w.heap.size := ⟨_, rfl⟩
  rw [← hN] at hL
  have HN := Lib.hid hN
  have hmay := fun V h => ref_may18 x hf k V h
  rw [h0] at hmay
  obtain ⟨hR, k0, k8⟩ := mayE_ok h0
  have HR := Lib.hid hR
  have hk8 : k < 8 := by omega
  have t4 : decide (4 ≤ (k : Int)) = false := by simp; omega
  have t4' : decide ((k : Int) ≥ 4) = false := by simp; omega
  have hsd : ∀ a b, Tu.sides k a b = (a, b) := fun a b => sides_loE a b k0 (by omega)
  have HSD := Lib.hid hsd
  unfold ImgArg.val at hmay ⊢
  clear hN hI hcu hqu htu h0 hR hsd hf
  go_enter Tryz.func8, Tryz.ntmps8
  go_upto_region 1 with fail
  refine wp_world (fun V => LI N x w V ∧ Blk V (N + 1) #[.int .i64 0, .int .i64 0, .slice none 0 0, .slice none 0 0, .slice none 0 0] 26) ⟨hL.below ((Below.refl _ _).alloc (Nat.le_refl _) _), Blk.new' _ _ _ (by rw [HN.out]; simp)⟩ ?_
  rw [← HN.out]
  clear hL
  rintro V ⟨hL, bQ⟩
  have hNN := hL.hM
  go_upto_region 4 with (first
    | (refine wpList_load_row rfl 26 _ rfl N rfl 26 _ _ _ hL.bN Tryz.underlying26 rfl (by kernel_rfl) ?_)
    | (go_at_call 7; refine (hmay _ hL.img).mono ?_; rintro r w3 ⟨rfl, hb3⟩; replace hL := hL.below hb3; replace bQ := bQ.below hb3 bQ.lt))
  clear hmay hb3
  refine wp_world (fun V => LI N x w V ∧ Blk V (N + 1) #[.int .i64 0, .int .i64 0, .slice none 0 0, .slice none 0 0, .slice none 0 0] 26) ⟨hL, bQ⟩ ?_
  clear hL bQ
  clear V w3
  rintro V ⟨hL, bQ⟩
  have n0 := hL.bN.cell 0; have n1 := hL.bN.cell 1
  have n4 : V.cell? ⟨N, 4, none⟩ = some (.slice tb x.ts.length tcap) := by rw [← HTU.out]; exact hL.bN.cell 4
  obtain ⟨P, hP⟩ : ∃ P, P = V.heap.size := ⟨_, rfl⟩
  have HP := Lib.hid hP
  clear hP
  go_upto_region 5 with (refine wpList_store_row rfl 26 _ _ rfl P _ (by rw [HP.out]; rfl) rfl 26 _ (Blk.new' _ _ _ HP.out) (by kernel_rfl) rfl (by simp [Value.oneCell']) ?_; simp only [Act.put])
  have hbe : Below V.heap.size V ((V.alloc (.cells #[.int .i64 0, .int .i64 0, .slice none 0 0, .slice none 0 0, .slice none 0 0] 26)).setRow P #[.int .i64 x.w, .int .i64 x.h, .slice none 0 0, .slice none 0 0, .slice tb x.ts.length tcap]) := Below.setRow ((Below.refl _ _).alloc (Nat.le_refl _) _) (Nat.le_of_eq HP.out.symm) _
  have hNP : N + 1 < P := by rw [HP.out]; exact bQ.lt
  try rw [← HP.out]
  refine wp_world (RO N P x x.w x.h (.slice none 0 0) (.slice none 0 0) [] [] w) ⟨hL.below hbe, bQ.below hbe bQ.lt, (by rw [HTU.out]; exact (Blk.new' _ _ _ HP.out).row _), Cz.nil _ _, Row.nil _ _ _ _, (fun q hq => by simp at hq), hNP⟩ ?_
  clear hbe hL bQ HP n0 n1 n4
  clear V
  intro V hO
  go_wp2
  go_loopw [8] (fun iv wr => ∃ (i : Nat) (o : Value) (ys : List CompArg), i ≤ x.cs.length ∧ iv = .int .i64 i ∧ ys.map cd = ((x.cs.take i).map (flipK k)).map cd ∧ RO N P x x.w x.h o (.slice none 0 0) ys [] w wr) (fun iv _ => x.cs.length - (intOf iv).toNat)
  case atStart => exact ⟨0, _, [], Nat.zero_le _, rfl, rfl, hO⟩
  case round =>
    clear hO
    obtain ⟨i, o, ys, hi, rfl, hys, hO⟩ := hrel
    have q2 : wr.cell? ⟨N, 2, none⟩ = some (.slice cb x.cs.length ccap) := by rw [← HCU.out]; exact hO.l.bN.cell 2
    by_cases hlt : i < x.cs.length
    · have tl : decide (i < x.cs.length) = true := by simpa using hlt
      have hcs : IsComps wr (.slice cb x.cs.length ccap) x.cs := by have := hO.l.img.cs; rwa [HCU.out] at this
      obtain ⟨aa, rfl, c0, c1, c2, c3, c4, c5, c6⟩ := hcs.at hlt
      have hok := hcs.ok _ (List.getElem_mem hlt)
      obtain ⟨p1, -, -⟩ := HR.out.plane hlt
      obtain ⟨cn, rn, cols, rows, K⟩ := natK ⟨k0, k8⟩ p1
      have hdo : ∀ u W, Ar W 64 u (flipK k (x.cs[i]'hlt)).bs.length (bcells (flipK k (x.cs[i]'hlt)).bs) → CompArg.Ok W { flipK k (x.cs[i]'hlt) with u := u } := fun u W ha => flipK_ok ⟨k0, k8⟩ hok K u W ha
      have hfk : flipK k (x.cs[i]'hlt) = ⟨(x.cs[i]'hlt).id, (x.cs[i]'hlt).h, (x.cs[i]'hlt).v, (x.cs[i]'hlt).q, cols, rows, .slice none 0 0, flipB k (x.cs[i]'hlt).bs cn rn cols (x.cs[i]'hlt).bs.length⟩ := by
        unfold flipK
        rw [K.hc, K.hr, K.hsd, HSD.out]
        rfl
      have hst : ∀ u, (ys ++ [{ flipK k (x.cs[i]'hlt) with u := u }]).map cd = ((x.cs.take (i + 1)).map (flipK k)).map cd := fun u => by
        rw [List.map_append, hys, List.take_add_one, List.getElem?_eq_getElem hlt]
        simp only [Option.toList_some, List.map_append, List.map_cons, List.map_nil]
        rfl
      obtain ⟨g1, g2, g3, g4, g5, g6⟩ := Pl.sized_ok K.z
      have hcr : cn * rn ≤ 16384 := by exact_mod_cast g6
      have hpo := Pc.pic_ok (c := cn) (r := rn) (by omega) (by omega) hcr
      have hps := Pc.pic_src k hk8 cn rn
      have hto := (Pc.turn_ok k hpo).len
      have hnew := fun V => new_any cn rn hcr (by omega) (by omega) V
      have htu := fun v V hv => turn_any k hk8 (Pc.pic cn rn) hpo v V hv
      generalize Pc.turn k (Pc.pic cn rn) = T at *
      obtain ⟨Tc, Tr, Tl⟩ := T
      simp only at hps hto htu
      have hsT := hps.1.symm.trans K.hsd
      simp only [Prod.mk.injEq] at hsT
      obtain rfl : Tc = cols := by omega
      obtain rfl : Tr = rows := by omega
      have hPN : PN k (x.cs[i]'hlt).bs cn rn Tc (x.cs[i]'hlt).bs.length Tl (flipB k (x.cs[i]'hlt).bs cn rn Tc (x.cs[i]'hlt).bs.length) := by
        refine ⟨by rw [hto, K.n]; exact K.m, flipB_len _ _ _ _ _ _, rfl, fun j hj => ?_⟩
        have hj2 : j < cn * rn := by rw [← K.n]; exact hj
        have hj3 : j < Tc * Tr := by rw [K.m]; exact hj2
        have hx := src_idx k0 k8 K.hsd hj3
        rw [hps.2 j hj2]
        exact ⟨by rw [K.n]; exact hx, flipB_at k _ cn rn Tc _ hj⟩
      rw [hfk] at hdo hst
      have HST := Lib.hid hst
      have h64 := hok.h64
      have hin := fun b hb => in16_of (hok.wb b hb)
      have HIN := Lib.hid hin
      obtain ⟨ub, uc, hu, -, -⟩ := hok.ar.len
      have hAr := hok.ar
      rw [hu] at c6 hAr
      rw [K.hc] at c4
      rw [K.hr] at c5
      have hTl := hto.trans K.m
      rw [← K.n] at hTl
      have hn16 : (x.cs[i]'hlt).bs.length ≤ 16384 := by rw [K.n]; exact hcr
      have hn1 : 1 ≤ (x.cs[i]'hlt).bs.length := by rw [K.n]; exact Nat.mul_pos (by omega) (by omega)
      have j0 : (0 : Int) ≤ (i : Int) := by omega
      have j1 : (i : Int) < (x.cs.length : Int) := by omega
      clear hok p1 hu hcs hst hfk hsT hps hto hpo K hin g1 g2 g3 g4 g5 g6 hcr
      generalize flipB k (x.cs[i]'hlt).bs cn rn Tc (x.cs[i]'hlt).bs.length = M at *
      generalize (x.cs[i]'hlt).id = v0 at *
      generalize (x.cs[i]'hlt).h = v1 at *
      generalize (x.cs[i]'hlt).v = v2 at *
      generalize (x.cs[i]'hlt).q = v3 at *
      generalize (x.cs[i]'hlt).bs = bs at *
      obtain ⟨n, hn⟩ : ∃ n, bs.length = n := ⟨_, rfl⟩
      rw [hn] at hTl hn16 hn1 hPN c6 hAr
      have HNL := Lib.hid hn
      have HDO := Lib.hid hdo
      have HTL := Lib.hid hTl
      have HPN := Lib.hid hPN
      clear hn hdo hTl hPN
      obtain ⟨C, hC⟩ : ∃ C, C = wr.heap.size := ⟨_, rfl⟩
      have HC := Lib.hid hC
      clear hC
      go_upto_region 12 with fail
      have hbe : Below C wr (wr.alloc (.cells #[.int .i64 v0, .int .i64 v1, .int .i64 v2, .int .i64 v3, .int .i64 cn, .int .i64 rn, .slice ub n uc] 48)) := by rw [HC.out]; exact (Below.refl _ _).alloc (Nat.le_refl _) _
      rw [← HC.out]
      refine wp_world (fun V => Blk V C #[.int .i64 v0, .int .i64 v1, .int .i64 v2, .int .i64 v3, .int .i64 cn, .int .i64 rn, .slice ub n uc] 48 ∧ Below C wr V) ⟨Blk.new' _ _ _ HC.out, hbe⟩ ?_
      clear hbe q2 tl c0 c1 c2 c3 c4 c5 c6
      rintro V ⟨bC, hBw⟩
      obtain ⟨Wb, hWb⟩ : ∃ W, W = wr := ⟨_, rfl⟩
      subst hWb
      have HOB := Lib.hid (fun V (hS : Below C Wb V) => hO.below (by rw [← HC.out]; exact hS))
      have HAB := Lib.hid (fun V (hS : Below C Wb V) => hAr.below (by rw [← HC.out]; exact hS))
      have hCP : P < C := by rw [HC.out]; exact hO.bP.lt
      clear hAr
      have c4 := bC.cell 4; have c5 := bC.cell 5
      go_upto_region 13 with (first
        | (go_at_call 16; refine (hnew _).mono ?_; rintro e W1 ⟨v, rfl, hIs, hB1⟩; replace hBw := hBw.trans (hB1.mono (Nat.le_of_lt bC.lt)); replace bC := bC.below hB1 bC.lt)
        | (go_at_call 17; refine (htu _ _ hIs).mono ?_; rintro e W2 ⟨v, rfl, hIs2, hB2⟩; replace hBw := hBw.trans (hB2.mono (Nat.le_of_lt bC.lt)); replace bC := bC.below hB2 bC.lt; obtain ⟨u, rfl, hRow⟩ := hIs2; rw [HTL.out] at hRow; obtain ⟨gq, cq, rfl, -, -, -⟩ := hRow.cells hn1; obtain ⟨C2, hC2⟩ : ∃ Q, Q = W2.heap.size := ⟨_, rfl⟩; have HC2 := Lib.hid hC2; clear hC2)
        | (refine wpList_store_row rfl 61 _ _ rfl C2 _ (by rw [HC2.out]; rfl) rfl 61 _ (Blk.new' _ _ _ HC2.out) (by kernel_rfl) rfl (by simp [Value.oneCell']) ?_; simp only [Act.put]))
      have hbe : Below W2.heap.size W2 ((W2.alloc (.cells #[.int .i64 0, .int .i64 0, .slice none 0 0] 61)).setRow C2 #[.int .i64 Tc, .int .i64 Tr, .slice (some ⟨gq, 0, none⟩) n cq]) := Below.setRow ((Below.refl _ _).alloc (Nat.le_refl _) _) (Nat.le_of_eq HC2.out.symm) _
      have hCC2 : C < C2 := by rw [HC2.out]; exact bC.lt
      try rw [← HC2.out]
      refine wp_world (fun V => (Blk V C #[.int .i64 v0, .int .i64 v1, .int .i64 v2, .int .i64 v3, .int .i64 cn, .int .i64 rn, .slice ub n uc] 48 ∧ Below C Wb V) ∧ Blk V C2 #[.int .i64 Tc, .int .i64 Tr, .slice (some ⟨gq, 0, none⟩) n cq] 61 ∧ Row V 0 3 1 (.slice (some ⟨gq, 0, none⟩) n cq) n (Pc.cells Tl)) ⟨⟨bC.below hbe bC.lt, hBw.trans (hbe.mono (Nat.le_of_lt bC.lt))⟩, (Blk.new' _ _ _ HC2.out).row _, hRow.grow hbe⟩ ?_
      clear hbe hRow hIs hB1 hB2 HC2 bC hBw c4 c5 hnew htu
      clear V W1 W2
      rintro V ⟨⟨bC, hBw⟩, bp, hRow⟩
      have c0 := bC.cell 0; have c1 := bC.cell 1; have c2 := bC.cell 2; have c3 := bC.cell 3
      obtain ⟨D, hD⟩ : ∃ D, D = V.heap.size := ⟨_, rfl⟩
      have hC2D : C2 < D := by rw [hD]; exact bp.lt
      have HD := Lib.hid hD
      clear hD
      go_upto_region 14 with fail
      rw [← HD.out]
      have hbe : Below V.heap.size V (V.alloc (.cells #[.int .i64 v0, .int .i64 v1, .int .i64 v2, .int .i64 v3, .int .i64 0, .int .i64 0, .slice none 0 0] 48)) := (Below.refl _ _).alloc (Nat.le_refl _) _
      refine wp_world (fun V => ((Blk V C #[.int .i64 v0, .int .i64 v1, .int .i64 v2, .int .i64 v3, .int .i64 cn, .int .i64 rn, .slice ub n uc] 48 ∧ Below C Wb V) ∧ Blk V C2 #[.int .i64 Tc, .int .i64 Tr, .slice (some ⟨gq, 0, none⟩) n cq] 61 ∧ Row V 0 3 1 (.slice (some ⟨gq, 0, none⟩) n cq) n (Pc.cells Tl)) ∧ Blk V D #[.int .i64 v0, .int .i64 v1, .int .i64 v2, .int .i64 v3, .int .i64 0, .int .i64 0, .slice none 0 0] 48) ⟨⟨⟨bC.below hbe bC.lt, hBw.trans (hbe.mono (Nat.le_of_lt bC.lt))⟩, bp.below hbe bp.lt, hRow.grow hbe⟩, Blk.new' _ _ _ HD.out⟩ ?_
      clear hbe bC hBw bp hRow c0 c1 c2 c3 HD
      clear V
      rintro V ⟨⟨⟨bC, hBw⟩, bp, hRow⟩, bD⟩
      have p0 := bp.cell 0; have p1 := bp.cell 1
      have bs1 := Blk.cells_set (g := D) (t := 48) [.int .i64 Tc, .int .i64 Tr, .slice none 0 0] 4 V [.int .i64 v0, .int .i64 v1, .int .i64 v2, .int .i64 v3, .int .i64 0, .int .i64 0, .slice none 0 0] bD (by simp)
      simp only [List.take_succ_cons, List.take_zero, List.length_cons, List.length_nil, List.drop_succ_cons, Nat.reduceAdd, List.cons_append, List.nil_append, List.drop_nil] at bs1
      have hS0 : FS C C2 D v0 v1 v2 v3 cn rn v0 v1 v2 v3 Tc Tr (.slice ub n uc) (.slice (some ⟨gq, 0, none⟩) n cq) (.slice none 0 0) n Tl (M.take 0) Wb (V.setCells D 4 [.int .i64 Tc, .int .i64 Tr, .slice none 0 0]) :=
        ⟨bC.wrote (by omega) _ _, bp.wrote (by omega) _ _, hRow.nor ⟨_, bD⟩ (by decide) _ _, bs1, Row.nil _ _ _ _, below_wrote hBw (by omega) _ _, hCC2, hC2D⟩
      go_upto_region 18 with (refine wpList_store_mid rfl 46 _ _ rfl D 4 #[.int .i64 Tc, .int .i64 Tr, .slice none 0 0] rfl rfl (fun j hj => ⟨by rw [bD.cell]; simp at hj ⊢; omega, bD.free _⟩) (by kernel_rfl) (by simp [Value.oneCell']) ?_; simp only [Act.put])
      refine wp_world (FS C C2 D v0 v1 v2 v3 cn rn v0 v1 v2 v3 Tc Tr (.slice ub n uc) (.slice (some ⟨gq, 0, none⟩) n cq) (.slice none 0 0) n Tl (M.take 0) Wb) hS0 ?_
      clear hS0 bs1 p0 p1 bC hBw bp hRow bD
      clear V
      intro V hS
      go_wp2
      go_loopw [12] (fun iv V => ∃ (j : Nat) (v : Value), j ≤ n ∧ iv = .int .i64 j ∧ FS C C2 D v0 v1 v2 v3 cn rn v0 v1 v2 v3 Tc Tr (.slice ub n uc) (.slice (some ⟨gq, 0, none⟩) n cq) v n Tl (M.take j) Wb V) (fun iv _ => n - (intOf iv).toNat)
      case atStart => exact ⟨0, _, Nat.zero_le _, rfl, hS⟩
      case round =>
        clear hS
        obtain ⟨j, v, hj, rfl, hS⟩ := hrel
        have p2 : wr.cell? ⟨C2, 2, none⟩ = some (.slice (some ⟨gq, 0, none⟩) n cq) := hS.bp.cell 2
        by_cases hjl : j < n
        · have tz : decide (j < n) = true := by simpa using hjl
          go_upto_region 21 with fail
          clear p2 tz
          obtain ⟨hsn, hMj⟩ := HPN.out.at_ j hjl
          have hMl := HPN.out.ml
          have hjM : j < M.length := by rw [hMl]; exact hjl
          have htk : M.take (j + 1) = M.take j ++ [Tu.block k (Pl.blk bs (Tl.getD j 0))] := by
            rw [List.take_add_one, List.getElem?_eq_getElem hjM, Option.toList_some, ← hMj, ← Pl.blk_eq hjM]
          have hlk : (M.take j).length = j := by rw [List.length_take]; omega
          have HTK := Lib.hid htk; have HLK := Lib.hid hlk
          have hpc : ∀ V, Row V 0 3 1 (.slice (some ⟨gq, 0, none⟩) n cq) n (Pc.cells Tl) → V.cell? ⟨gq, j, none⟩ = some (.int .i64 ((Tl.getD j 0 : Nat) : Int)) := fun V hV => by
            obtain ⟨g', c', he, -, -, hc⟩ := hV.cells (by omega)
            cases he
            exact (hc j (by omega)).trans (Pc.cells_get Tl j (by rw [HTL.out]; exact hjl))
          have HPC := Lib.hid hpc
          clear hpc htk hlk hMj hMl hjM
          generalize Tl.getD j 0 = s at *
          have hsl : s < bs.length := by rw [HNL.out]; exact hsn
          have hbx := Pl.blk_get hsl
          have hb64 := Pl.blk_len h64 s
          have hin := HIN.out (Pl.blk bs s) (by rw [← Pl.blk_eq hsl]; exact List.getElem_mem hsl)
          generalize Pl.blk bs s = y at *
          generalize M.take j = L at *
          obtain ⟨bv, cv, rfl⟩ := hS.row.len
          obtain ⟨ad, cp, hsl2, -, -⟩ := (HAB.out _ hS.hB).some (by omega)
          simp only [Value.slice.injEq] at hsl2
          obtain ⟨rfl, -, rfl⟩ := hsl2
          have z1 : (0 : Int) ≤ (j : Int) := by omega
          have z3 : (j : Int) < (n : Int) := by omega
          have s1 : (0 : Int) ≤ (s : Int) := by omega
          have s3 : (s : Int) < (n : Int) := by omega
          have hrb := fun W => rblock_any (k : Int) y hb64 hin W
          have hyl : (Tu.block k y).length = 64 := Tu.block_len _ _
          have hGm : ∀ V V', FS C C2 D v0 v1 v2 v3 cn rn v0 v1 v2 v3 Tc Tr (.slice (some ad) n uc) (.slice (some ⟨gq, 0, none⟩) n cq) (.slice bv L.length cv) n Tl L Wb V → Below V.heap.size V V' → FS C C2 D v0 v1 v2 v3 cn rn v0 v1 v2 v3 Tc Tr (.slice (some ad) n uc) (.slice (some ⟨gq, 0, none⟩) n cq) (.slice bv L.length cv) n Tl L Wb V' := fun V V' h hb => h.below hb
          refine wp_region_mono [0, 1, 2, 3, 4, 5, 6, 7, 8, 9, 10, 11, 12, 13, 14, 15] [16, 17, 18, 19] (FS C C2 D v0 v1 v2 v3 cn rn v0 v1 v2 v3 Tc Tr (.slice (some ad) n uc) (.slice (some ⟨gq, 0, none⟩) n cq) (.slice bv L.length cv) n Tl L Wb)
            (fun | 14 => some (sFix (.agg (ints .i16 (Tu.block k y)))) | 15 => some (sSlice 1 (ints .i16 (Tu.block k y)) 66) | _ => none) (fun _ => []) (by kernel_rfl) (by kernel_rfl) (hS.below (Below.refl _ _).drew) ?_ ?_
          · intro i s hs
            match i with
            | 14 => cases hs; exact fun _ _ => sFix_mono _ _ _
            | 15 => cases hs; exact fun _ _ => sSlice_mono _ _ _ _ _
          clear hS
          simp only [pick, List.getD_cons_succ, List.getD_cons_zero, List.zip_cons_cons, List.zip_nil_right]
          iterate 2 (first | (refine mono_skip (by rfl) ?_; simp only [Act.put, List.setIfInBounds_toArray, List.set_cons_zero, List.set_cons_succ]) | (refine mono_pure (v := ?_) (by rfl) rfl ?_ ?_; rotate_left; (intro wS hS; go_simp; try with_reducible rfl); simp only [Act.put, List.setIfInBounds_toArray, List.set_cons_zero, List.set_cons_succ]))
          refine mono_pure (v := .slice bv L.length cv) (by rfl) rfl (fun w1 hG => by have cy := hG.bD.cell 6; go_simp; try with_reducible rfl) ?_
          simp only [Act.put, List.setIfInBounds_toArray, List.set_cons_zero, List.set_cons_succ]
          iterate 3 (first | (refine mono_skip (by rfl) ?_; simp only [Act.put, List.setIfInBounds_toArray, List.set_cons_zero, List.set_cons_succ]) | (refine mono_pure (v := ?_) (by rfl) rfl ?_ ?_; rotate_left; (intro wS hS; go_simp; try with_reducible rfl); simp only [Act.put, List.setIfInBounds_toArray, List.set_cons_zero, List.set_cons_succ]))
          refine mono_pure (v := .slice (some ad) n uc) (by rfl) rfl (fun w1 hG => by have cy := hG.bC.cell 6; go_simp; try with_reducible rfl) ?_
          simp only [Act.put, List.setIfInBounds_toArray, List.set_cons_zero, List.set_cons_succ]
          (first | (refine mono_skip (by rfl) ?_; simp only [Act.put, List.setIfInBounds_toArray, List.set_cons_zero, List.set_cons_succ]) | (refine mono_pure (v := ?_) (by rfl) rfl ?_ ?_; rotate_left; (intro wS hS; go_simp; try with_reducible rfl); simp only [Act.put, List.setIfInBounds_toArray, List.set_cons_zero, List.set_cons_succ]))
          refine mono_pure (v := .slice (some ⟨gq, 0, none⟩) n cq) (by rfl) rfl (fun w1 hG => by have cy := hG.bp.cell 2; go_simp; try with_reducible rfl) ?_
          simp only [Act.put, List.setIfInBounds_toArray, List.set_cons_zero, List.set_cons_succ]
          iterate 2 (first | (refine mono_skip (by rfl) ?_; simp only [Act.put, List.setIfInBounds_toArray, List.set_cons_zero, List.set_cons_succ]) | (refine mono_pure (v := ?_) (by rfl) rfl ?_ ?_; rotate_left; (intro wS hS; go_simp; try with_reducible rfl); simp only [Act.put, List.setIfInBounds_toArray, List.set_cons_zero, List.set_cons_succ]))
          refine mono_pure (v := .int .i64 s) (by rfl) rfl (fun w1 hG => by have cy := HPC.out _ hG.pn; go_simp; try with_reducible rfl) ?_
          simp only [Act.put, List.setIfInBounds_toArray, List.set_cons_zero, List.set_cons_succ]
          (first | (refine mono_skip (by rfl) ?_; simp only [Act.put, List.setIfInBounds_toArray, List.set_cons_zero, List.set_cons_succ]) | (refine mono_pure (v := ?_) (by rfl) rfl ?_ ?_; rotate_left; (intro wS hS; go_simp; try with_reducible rfl); simp only [Act.put, List.setIfInBounds_toArray, List.set_cons_zero, List.set_cons_succ]))
          refine mono_pure (by rfl) rfl (fun w1 hG => by have hA := HAB.out _ hG.hB; rw [← HNL.out] at hA; exact ar_loadx hA h64 s hsl y hbx _ rfl rfl) ?_
          simp only [Act.put, List.setIfInBounds_toArray, List.set_cons_zero, List.set_cons_succ]
          refine mono_fix (.agg (ints .i16 (Tu.block k y))) (by rfl) rfl hGm (by intro w hG; go_simp; first | done | exact ⟨rfl, rfl⟩) (fun w1 hG hH => hrb w1) ?_
          simp only [Act.put, List.setIfInBounds_toArray, List.set_cons_zero, List.set_cons_succ]
          refine mono_slice 1 (ints .i16 (Tu.block k y)) 66 (by rfl) rfl hGm (fun wS => run_exec_slice1 _ rfl (Tu.block k y) rfl hyl) (fun gs => ?_)
          simp only [Act.put, List.setIfInBounds_toArray, List.set_cons_zero, List.set_cons_succ]
          refine mono_nil ?_
          rintro w1 hP ⟨hbs, I, hI1, hI2⟩
          obtain ⟨i1, i2, i3, ⟨g, hg, i4, i5, i6⟩⟩ := hI1 15 _ (upd_self _ _ _)
          obtain rfl : gs = g := by simpa using hg
          have hmid : Ar w1 64 (.slice (some ⟨gs, 0, none⟩) 1 1) 1 (bcells [Tu.block k y]) := by
            refine ⟨by simp [bcells, hyl], .inr ⟨_, 1, rfl, Nat.le_refl _, by unfold maxLen; decide, fun j v hj => ?_⟩⟩
            rw [Go.Addr.add_mid, Nat.zero_add, i6.cell]
            simp only [bcells, List.flatMap_cons, List.flatMap_nil, List.append_nil] at hj
            simpa [ints] using hj
          have hD1 : D + 1 ≤ w1.heap.size := hP.bD.lt
          have hRw := hP.row
          have hbD := hP.bD
          have hLj : L.length ≤ n := by rw [HLK.out]; omega
          have hne : ∀ g, (Value.slice bv L.length cv).ownBlock = some g → D + 1 ≤ g := fun g hg => (hRw.lt g hg).1
          have hnpn : ∀ g, (Value.slice (some ⟨gq, 0, none⟩) n cq).ownBlock = some g → some g ≠ (Value.slice bv L.length cv).ownBlock := fun g hg e => by
            obtain ⟨cur, hbq⟩ := hP.pn.blk
            cases hg
            exact hRw.typed hbq (by decide) _ e.symm rfl
          have hpnD : ∀ g, (Value.slice (some ⟨gq, 0, none⟩) n cq).ownBlock = some g → g ≠ D := hP.pn.typed hP.bD (by decide)
          clear hI1 hI2 i1 i2 i3 i4 i5 i6 hg hbs hGm hrb hin hbx
          go_wp2_with (refine wpList_append_ar _ rfl _ _ 44 rfl (D + 1) 66 _ _ 64 128 rfl rfl rfl rfl rfl rfl _ L.length _ rfl hRw _ 1 _ rfl hmid (bcells_one _) (by simp only [maxLen]; omega) (by omega) (by omega) (fun v' w4 hR4 hg4 hat => ?_); obtain ⟨bz, cz, rfl⟩ := hR4.len; have hg5 : w1.grownBy w4 (Value.slice bv L.length cv).ownBlock := hg4; have b74 := hbD.grown hg5 (fun e => by have := hne _ e.symm; omega); have q6 := b74.cell 6; have f6 := b74.free 6)
          have hnr : ∀ g, g < D + 1 → some g ≠ (Value.slice bv L.length cv).ownBlock := fun g hg e => by have := hne _ e.symm; omega
          have hlen : (L ++ [Tu.block k y]).length = L.length + 1 := by simp
          refine ⟨⟨j + 1, .slice bz (L.length + 1) cz, hjl, by go_num, ?_⟩, by simp [intOf]; omega⟩
          rw [HTK.out]
          have hlt2 := hP.lt
          refine ⟨(hP.bC.grown hg5 (hnr _ (by omega))).other _ _ (by show C ≠ D; omega), (hP.bp.grown hg5 (hnr _ (by omega))).other _ _ (by show C2 ≠ D; omega), (hP.pn.grown hg5 hnpn).other _ _ hpnD, b74.set 6 _, ?_, ?_, hlt2⟩
          · rw [hlen, bcells_append]
            exact hR4.other _ _ (fun g hg => by have := (hR4.lt g hg).1; show g ≠ D; omega)
          · exact (Below.grown hP.hB (by omega) hg5 (fun g e => by have := hne g e; omega)).setCell (p := ⟨D, 6, none⟩) (by show C ≤ D; omega) _
        · have tz : decide (j < n) = false := by simpa using hjl
          obtain rfl : j = n := by omega
          have hMe : M.take j = M := by rw [List.take_of_length_le]; rw [HPN.out.ml]; exact Nat.le_refl _
          rw [hMe] at hS
          clear hMe
          obtain ⟨bv, cv, rfl⟩ := hS.row.len
          have hO5 := HOB.out _ hS.hB
          obtain ⟨b3, c3, hyl⟩ := hO5.cs.row.len
          obtain rfl := hyl
          have hy20 : ys.length ≤ 20 := by have := congrArg List.length hys; simp at this; omega
          have q2 : wr.cell? ⟨P, 2, none⟩ = some (.slice b3 ys.length c3) := hO5.bP.cell 2
          have hWA : Below wr.heap.size wr (wr.alloc (.cells #[.int .i64 v0, .int .i64 v1, .int .i64 v2, .int .i64 v3, .int .i64 Tc, .int .i64 Tr, .slice bv M.length cv] 48)) := (Below.refl _ _).alloc (Nat.le_refl _) _
          have hO6 := hO5.below hWA
          have hR6 := hO6.cs.row
          have hS6 := hS.row.grow hWA
          have hbN := Blk.new wr #[.int .i64 v0, .int .i64 v1, .int .i64 v2, .int .i64 v3, .int .i64 Tc, .int .i64 Tr, .slice bv M.length cv] 48
          have hP6 := hO6.bP.lt
          clear hys
          go_wp2_with (first
            | (refine wpList_load_row rfl 48 _ rfl D rfl 48 _ _ _ hS.bD Tryz.underlying48 rfl (by kernel_rfl) ?_)
            | (refine wpList_append_Row _ rfl _ _ 22 rfl (P + 1) 48 _ _ 7 72 rfl rfl rfl rfl rfl rfl _ ys.length _ rfl hR6 _ 1 1 [.int .i64 v0, .int .i64 v1, .int .i64 v2, .int .i64 v3, .int .i64 Tc, .int .i64 Tr, .slice bv M.length cv] rfl (by omega) rfl hbN.cells (by intro u hu; simp at hu; rcases hu with rfl | rfl | rfl | rfl | rfl | rfl | rfl <;> rfl) (by simp only [maxLen]; omega) (by omega) (by omega) (fun v' w8 hR8 hg8 hat => ?_); obtain ⟨bz, cz, rfl⟩ := hR8.len; have bP8 := hO6.bP.grown hg8 (fun e => hR6.typed hO6.bP (by decide) P e.symm rfl); have p8 := bP8.cell 2; have f8 := bP8.free 2))
          refine ⟨⟨i + 1, .slice bz (ys.length + 1) cz, _, hlt, by go_num, HST.out (.slice bv M.length cv), ?_⟩, by simp [intOf]; omega⟩
          have hR9 : Row w8 (P + 1) 48 7 (.slice bz (ys.length + 1) cz) (ys.length + 1) ((ys.map CompArg.cells).flatten ++ (⟨v0, v1, v2, v3, Tc, Tr, .slice bv M.length cv, M⟩ : CompArg).cells) := hR8
          exact RO.pushC HI.out hO6 hg8 hR9 (hS6.down (by omega)) (fun W' ha => HDO.out _ W' ha)
    · obtain rfl : i = x.cs.length := by omega
      have tl : decide (x.cs.length < x.cs.length) = false := by simp
      rw [List.take_length] at hys
      have HYS := Lib.hid hys
      have HYL := Lib.hid (show ys.length = x.cs.length by have := congrArg List.length hys; simpa using this)
      obtain ⟨Wb, hWb⟩ : ∃ W, W = wr := ⟨_, rfl⟩
      subst hWb
      clear hys hi hlt
      obtain ⟨ob, oc, rfl⟩ : ∃ b c, o = .slice b ys.length c := hO.cs.row.len
      go_wp2
      go_loopw [13] (fun iv wr => ∃ (i : Nat) (qc : Value), i ≤ x.qs.length ∧ iv = .int .i64 i ∧ RO N P x x.w x.h (.slice ob ys.length oc) qc ys ((x.qs.take i).map (flipQ k)) w wr) (fun iv _ => x.qs.length - (intOf iv).toNat)
      case atStart => exact ⟨0, _, Nat.zero_le _, rfl, hO⟩
      case round =>
        clear hO tl q2
        obtain ⟨i, qc, hi, rfl, hO⟩ := hrel
        have q3 : wr.cell? ⟨N, 3, none⟩ = some (.slice qb0 x.qs.length qcap0) := by rw [← HQU.out]; exact hO.l.bN.cell 3
        by_cases hlt : i < x.qs.length
        · have tl : decide (i < x.qs.length) = true := by simpa using hlt
          have hqs : IsQuants wr (.slice qb0 x.qs.length qcap0) x.qs := by have := hO.l.img.qs; rwa [HQU.out] at this
          obtain ⟨ad, rfl, qat⟩ := hqs.place hlt
          have hqo := hqs.ok _ (List.getElem_mem hlt)
          have hen := fun V (hV : IsQuants V (.slice (some ad) x.qs.length qcap0) x.qs) m (hm : m < 64) => q_entry hV hlt hm
          have hst : (x.qs.take (i + 1)).map (flipQ k) = (x.qs.take i).map (flipQ k) ++ [flipQ k (x.qs[i]'hlt)] := by
            rw [List.take_add_one, List.getElem?_eq_getElem hlt]
            simp only [Option.toList_some, List.map_append, List.map_cons, List.map_nil]
          obtain ⟨q, hq⟩ : ∃ q, x.qs[i]'hlt = q := ⟨_, rfl⟩
          simp only [hq] at hqo hen hst qat
          obtain ⟨qa, qt⟩ := q
          simp only at qat hen
          have hq64 : qt.length = 64 := hqo.l64
          have htl := Tu.table_len k qt hq64
          have hfo : QuantArg.Ok (flipQ k ⟨qa, qt⟩) := ⟨hqo.wa, htl, fun y hy => hqo.wq y (table_mem ⟨k0, k8⟩ hq64 hy)⟩
          have hen2 := fun V hV m (hm : m < 64) => by
            have := hen V hV (Tu.perm k m) (Tu.perm_lt k m hm)
            rw [← Tu.table_get k k0 k8 qt m hm] at this
            exact this
          have HEN := Lib.hid hen2
          have HST := Lib.hid hst
          have HFO := Lib.hid hfo
          have j0 : (0 : Int) ≤ (i : Int) := by omega
          have j1 : (i : Int) < (x.qs.length : Int) := by omega
          clear hen hen2 hst hqs hqo hq hfo
          obtain ⟨R, hR0⟩ : ∃ R, R = wr.heap.size := ⟨_, rfl⟩
          have HRR := Lib.hid hR0
          clear hR0
          have hfl : flipQ k ⟨qa, qt⟩ = ⟨qa, Tu.table k qt⟩ := rfl
          rw [hfl] at HST HFO
          clear hfl
          generalize hTQ : Tu.table k qt = tq at *
          clear hTQ
          have hzq := zeroQ_set qa tq
          have hzs : (Tryz.zeroCells40.setIfInBounds 0 (.int .i64 qa)).size = 65 := by rw [hzq]; exact qPart_size htl (by decide)
          go_upto_region 27 with (refine wpList_store_rowTo rfl 40 _ _ rfl rfl R (Tryz.zeroCells40.setIfInBounds 0 (.int .i64 qa)) (by rw [HRR.out]; rfl) rfl 40 Tryz.zeroCells40 (Blk.new' _ _ _ HRR.out) (by rw [hzs]; kernel_rfl) (by rw [hzs]; kernel_rfl) (by rw [hzq]; exact QuantArg.arr_one _) ?_)
          have hbe : Below R wr ((wr.alloc (.cells Tryz.zeroCells40 40)).setRow R (Tryz.zeroCells40.setIfInBounds 0 (.int .i64 qa))) := by rw [HRR.out]; exact Below.setRow ((Below.refl _ _).alloc (Nat.le_refl _) _) (Nat.le_refl _) _
          try rw [← HRR.out]
          refine wp_world (fun V => Blk V R (qPart qa tq 0).arr 40 ∧ Below R wr V) ⟨by rw [← hzq]; exact (Blk.new' _ _ _ HRR.out).row _, hbe⟩ ?_
          clear hbe q3 qat tl hzq hzs
          obtain ⟨Wc, hWc⟩ : ∃ W, W = wr := ⟨_, rfl⟩
          subst hWc
          have HOB := Lib.hid (fun V (hS : Below R Wc V) => hO.below (by rw [← HRR.out]; exact hS))
          have hPR : P < R := by rw [HRR.out]; exact hO.bP.lt
          rintro V ⟨bR, hB⟩
          go_wp2
          go_loopw [15] (fun iv V => ∃ j : Nat, j ≤ 64 ∧ iv = .int .i64 j ∧ Blk V R (qPart qa tq j).arr 40 ∧ Below R Wc V) (fun iv _ => 64 - (intOf iv).toNat)
          case atStart => exact ⟨0, Nat.zero_le _, rfl, bR, hB⟩
          case round =>
            clear bR hB
            obtain ⟨j, hj, rfl, bR, hB⟩ := hrel
            by_cases hjl : j < 64
            · have tz : decide ((j : Int) < 64) = true := by simp; omega
              have hO7 := HOB.out _ hB
              have q3 : wr.cell? ⟨N, 3, none⟩ = some (.slice (some ad) x.qs.length qcap0) := by rw [← HQU.out]; exact hO7.l.bN.cell 3
              have hIQ : IsQuants wr (.slice (some ad) x.qs.length qcap0) x.qs := by have := hO7.l.img.qs; rwa [HQU.out] at this
              have e1 := HEN.out wr hIQ j hjl
              unfold Tu.perm at e1
              rw [if_neg (by omega)] at e1
              have r1 : ∃ z, wr.cell? ⟨R, 1 + j, none⟩ = some z := ⟨_, (bR.cell _).trans (Array.getElem?_eq_getElem (by rw [qPart_size htl hj]; omega))⟩
              obtain ⟨z, r1⟩ := r1
              have f1 := bR.free (1 + j)
              have hset := bR.set (1 + j) (.int .u16 (tq.getD j 0))
              rw [qPart_step htl hjl] at hset
              have HSET := Lib.hid hset
              generalize tq.getD j 0 = y at *
              clear hset hIQ hO7
              have jj0 : (0 : Int) ≤ (j : Int) := by omega
              have jj1 : (j : Int) < 64 := by omega
              go_wp2
              exact ⟨⟨j + 1, hjl, by go_num, HSET.out, hB.setCell (p := ⟨R, 1 + j, none⟩) (Nat.le_refl R) _⟩, by simp [intOf]; omega⟩
            · obtain rfl : j = 64 := by omega
              have tz : decide ((64 : Int) < 64) = false := rfl
              rw [qPart_all htl] at bR
              have hO5 := HOB.out _ hB
              have hzl : ((x.qs.take i).map (flipQ k)).length = i := by rw [List.length_map, List.length_take]; omega
              obtain ⟨b3, c3, hyl⟩ : ∃ b c, qc = .slice b i c := by obtain ⟨b, c, h⟩ := hO5.qs.len; rw [hzl] at h; exact ⟨b, c, h⟩
              subst hyl
              have q3 : wr.cell? ⟨P, 3, none⟩ = some (.slice b3 i c3) := hO5.bP.cell 3
              have hsz : (QuantArg.arr ⟨qa, tq⟩).size = 65 := by simp [QuantArg.arr, QuantArg.cells, htl]
              have hWA : Below wr.heap.size wr (wr.alloc (.cells (QuantArg.arr ⟨qa, tq⟩) 40)) := (Below.refl _ _).alloc (Nat.le_refl _) _
              have hO6 := hO5.below hWA
              have hR6 := hO6.qs
              rw [hzl] at hR6
              have hbN := Blk.new wr (QuantArg.arr ⟨qa, tq⟩) 40
              have hP6 := hO6.bP.lt
              have hcl : (QuantArg.cells ⟨qa, tq⟩).length = 65 := by simp [QuantArg.cells, htl]
              have hone : ∀ u ∈ QuantArg.cells ⟨qa, tq⟩, u.oneCell' = true := quantc_one _
              have hnc : ∀ j u, (QuantArg.cells ⟨qa, tq⟩)[j]? = some u → (wr.alloc (.cells (QuantArg.arr ⟨qa, tq⟩) 40)).cell? ((⟨wr.heap.size, 0, none⟩ : Addr).add j) = some u := fun j u hu => by
                have e : (⟨wr.heap.size, 0, none⟩ : Addr).add j = ⟨wr.heap.size, j, none⟩ := by unfold Addr.add; split <;> simp_all
                rw [e, hbN.cell]
                simpa [QuantArg.arr] using hu
              have hi20 : i ≤ 20 := by omega
              go_wp2_with (first
                | (refine wpList_load_row rfl 40 _ rfl R rfl 40 _ _ _ bR Tryz.underlying40 rfl (by rw [hsz]; kernel_rfl) ?_)
                | (refine Great.wpList_runTo rfl _ rfl _ _ (run_slice_quant _ rfl _ rfl hsz) ?_)
                | (refine wpList_append_Row _ rfl _ _ 23 rfl (P + 1) 40 _ _ 65 136 rfl rfl rfl rfl rfl rfl _ i _ rfl hR6 _ 1 1 (QuantArg.cells ⟨qa, tq⟩) rfl (by omega) hcl hnc hone (by simp only [maxLen]; omega) (by omega) (by omega) (fun v' w8 hR8 hg8 hat => ?_); obtain ⟨bz, cz, rfl⟩ := hR8.len; have bP8 := hO6.bP.grown hg8 (fun e => hR6.typed hO6.bP (by decide) P e.symm rfl); have p8 := bP8.cell 3; have f8 := bP8.free 3))
              refine ⟨⟨i + 1, .slice bz (i + 1) cz, hlt, by go_num, ?_⟩, by simp [intOf]; omega⟩
              rw [HST.out]
              exact RO.pushQ HI.out hO6 hg8 (by rw [hzl]; exact hR8) HFO.out
        · obtain rfl : i = x.qs.length := by omega
          have tl : decide (x.qs.length < x.qs.length) = false := by simp
          rw [List.take_length] at hO
          obtain ⟨zb, zc, rfl⟩ := hO.qs.len
          rw [List.length_map] at hO
          have hpq : (#[.int .i64 x.w, .int .i64 x.h, .slice ob ys.length oc, .slice zb x.qs.length zc, x.tu] : Array Value).all (·.oneCell') = true := by rw [HTU.out]; simp [Value.oneCell']
          go_wp2_with (first
            | (refine wpList_load_row rfl 26 _ rfl P rfl 26 _ _ _ hO.bP Tryz.underlying26 rfl (by kernel_rfl) ?_)
            | (refine wpList_store_row rfl 26 _ _ rfl (N + 1) _ rfl rfl 26 _ hO.bQ (by kernel_rfl) rfl hpq ?_))
          refine bodyPost_ret (results_row_tmp rfl _ _ (N + 1) 26 _ _ rfl (hO.bQ.row _) Tryz.underlying26 rfl (by kernel_rfl)) rfl ?_
          have hlo := hO.lo
          have hBF : Below w.heap.size w (wr.setRow (N + 1) #[.int .i64 x.w, .int .i64 x.h, .slice ob ys.length oc, .slice zb x.qs.length zc, x.tu]) := Below.setRow hO.l.hB (by omega) _
          have hyl := HYL.out
          have hix := HI.out.below hBF
          have hcs9 : Cz (P + 1) (.slice ob ys.length oc) ys (wr.setRow (N + 1) #[.int .i64 x.w, .int .i64 x.h, .slice ob ys.length oc, .slice zb x.qs.length zc, x.tu]) :=
            ⟨hO.cs.row.same fun g e => setRow_other _ _ _ _ (by have := (hO.cs.row.lt g e).1; omega), fun c hc => ⟨(hO.cs.pl c hc).1.same fun g e => setRow_other _ _ _ _ (by have := ((hO.cs.pl c hc).1.lt g e).1; omega), (hO.cs.pl c hc).2⟩⟩
          have hqr : Row (wr.setRow (N + 1) #[.int .i64 x.w, .int .i64 x.h, .slice ob ys.length oc, .slice zb x.qs.length zc, x.tu]) (P + 1) 40 65 (.slice zb x.qs.length zc) (x.qs.map (flipQ k)).length ((x.qs.map (flipQ k)).map QuantArg.cells).flatten := hO.qs.same fun g e => setRow_other _ _ _ _ (by have := (hO.qs.lt g e).1; omega)
          have hqok := hO.qok
          have hiq : IsQuants (wr.setRow (N + 1) #[.int .i64 x.w, .int .i64 x.h, .slice ob ys.length oc, .slice zb x.qs.length zc, x.tu]) (.slice zb x.qs.length zc) (x.qs.map (flipQ k)) :=
            ⟨Ar.elems hqr.ar (fun c hc => by obtain ⟨q, hq, rfl⟩ := List.mem_map.1 hc; simp [QuantArg.cells, (hqok q hq).l64]) (by simp) (by simp only [maxLen]; rw [List.length_map]; omega), hqok⟩
          have hfe := flip_few HF.out k
          have hsd : SameD (flipI x k) ⟨x.w, x.h, .slice ob ys.length oc, .slice zb x.qs.length zc, x.tu, ys, x.qs.map (flipQ k), x.ts⟩ := by
            refine ⟨?_, ?_, HYS.out, rfl, rfl⟩
            · unfold flipI; simp only; rw [HSD.out]
            · unfold flipI; simp only; rw [HSD.out]
          exact ⟨⟨_, rfl, hsd, ⟨rfl, HI.out.ww, HI.out.wh, hcs9.comps (by omega), hiq, hix.ts⟩, hsd.few hfe⟩, hBF⟩
end Go.Proofs.YtgmhhocpdfdplaaGreat
