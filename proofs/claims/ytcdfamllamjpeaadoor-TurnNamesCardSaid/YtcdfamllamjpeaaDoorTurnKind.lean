/- Package turn's Kind: which turn a name is. -/
import Derived.Test.YtcdfamllamjpeaaDoorTurnName
import Derived.Test.YtcdfamllamjpeaaDoorMem
import Derived.Deep.MidRow
namespace Go.Proofs.YtcdfamllamjpeaaDoor
open Go.RowKit
theorem bytes_ext {a b : ByteArray} (hs : a.size = b.size) (h : ∀ j (h1 : j < a.size) (h2 : j < b.size), a[j] = b[j]) : a = b := by
  cases a with | mk a => cases b with | mk b =>
  congr 1
  exact Array.ext hs (fun j h1 h2 => h j h1 h2)
theorem wrap32_u8 (x : UInt8) : wrap32 ((x.toNat : Nat) : Int) = (x.toNat : Int) := by
  have := x.toNat_lt
  unfold wrap32; omega
set_option maxHeartbeats 1000000 in
theorem same_eq (a : ByteArray) (ha : ∀ j (h : j < a.size), (a[j]'h).toNat < 128) (hm : a.size ≤ 100) (w : World) :
    Calls Tryd.prog 29 #[.string a, .string a] w fun e w' => e = .returned (.bool true) ∧ Below w.heap.size w w' := by
  go_enter Tryd.func29, Tryd.ntmps29
  go_wp2_with fail
  go_loopw [5, 6] (fun _ _ wr => ∃ k : Nat, k ≤ a.size ∧ wr = w.iter a k) (fun _ _ wr => a.size - wr.iterPos w.heap.size)
  case atStart => exact ⟨0, by omega, rfl⟩
  case round =>
    obtain ⟨k, hk, rfl⟩ := hrel
    by_cases hlt : k < a.size
    · have hn := fun ty => run_next_ascii (P := Tryd.prog) w a k ty hlt (ha k hlt)
      have t1 : (wrap32 ((a[k].toNat : Nat) : Int) != ((a[k].toNat : Nat) : Int)) = false := by rw [wrap32_u8]; simp
      go_wp2_with fail
      exact ⟨⟨k + 1, by omega, rfl⟩, by simp; omega⟩
    · have hn := fun ty => run_next_end (P := Tryd.prog) w a k ty hlt
      go_wp2_with fail
      go_ret
      exact ⟨rfl, (Below.refl _ _).alloc (Nat.le_refl _) _⟩
set_option maxHeartbeats 1000000 in
theorem same_ne (a b : ByteArray) (ha : ∀ j (h : j < a.size), (a[j]'h).toNat < 128) (hm : a.size ≤ 100) (_hmb : b.size ≤ 9223372036854775807) (hab : a ≠ b) (w : World) :
    Calls Tryd.prog 29 #[.string a, .string b] w fun e w' => e = .returned (.bool false) ∧ Below w.heap.size w w' := by
  by_cases hs : a.size = b.size
  · have ts : ((a.size : Int) != (b.size : Int)) = false := by rw [bne_eq_false_iff_eq]; omega
    have hs' := Lib.hid hs
    have hle : a.size ≤ b.size := by omega
    clear hs
    go_enter Tryd.func29, Tryd.ntmps29
    go_wp2_with fail
    go_loopw [5, 6] (fun _ _ wr => ∃ k : Nat, k ≤ a.size ∧ wr = w.iter a k ∧ Hid (∀ j (h1 : j < a.size) (h2 : j < b.size), j < k → a[j] = b[j])) (fun _ _ wr => a.size - wr.iterPos w.heap.size)
    case atStart => exact ⟨0, by omega, rfl, fun _ _ _ h => by omega⟩
    case round =>
      obtain ⟨k, hk, rfl, hpre⟩ := hrel
      by_cases hlt : k < a.size
      · have hn := fun ty => run_next_ascii (P := Tryd.prog) w a k ty hlt (ha k hlt)
        have hlt2 : k < b.size := by omega
        by_cases he : a[k] = b[k]
        · have t1 : (wrap32 ((b[k].toNat : Nat) : Int) != ((a[k].toNat : Nat) : Int)) = false := by rw [he, wrap32_u8]; simp
          have he' := Lib.hid he
          clear he
          go_wp2_with fail
          refine ⟨⟨k + 1, by omega, rfl, fun j h1 h2 h3 => ?_⟩, by simp; omega⟩
          by_cases e : j = k
          · subst e; exact he'.out
          · exact hpre.out j h1 h2 (by omega)
        · have t1 : (wrap32 ((b[k].toNat : Nat) : Int) != ((a[k].toNat : Nat) : Int)) = true := by
            rw [wrap32_u8, bne_iff_ne]; intro e; exact he (UInt8.toNat_inj.1 (by omega))
          clear he
          go_wp2_with fail
          go_ret
          exact ⟨rfl, (Below.refl _ _).alloc (Nat.le_refl _) _⟩
      · exact absurd (bytes_ext hs'.out (fun j h1 h2 => hpre.out j h1 h2 (by omega))) hab
  · have ts : ((a.size : Int) != (b.size : Int)) = true := by rw [bne_iff_ne]; omega
    clear hs
    go_enter Tryd.func29, Tryd.ntmps29
    go_wp2_with fail
    go_ret
    exact ⟨rfl, Below.refl _ _⟩
/-- An array of one-cell elements, indexed. -/
theorem run_index_row {P : Program} (w : World) (t e : TypeId) (n : Nat) (cs : Array Value) (d : TypeDesc) (ht : P.underlying t = some (.array n e)) (he : P.underlying e = some d) (hd : (match d with | .struct _ | .array _ _ => true | _ => false) = false)
    (hs : (P.info? e).map (·.size) = some 1) (k : Nat) (hk : k < n) (v : Value) (hv : cs[k]? = some v) : (Instr.index t (.agg cs) (.int .i64 k)).run P w = .ok v w := by
  have hsz : (sizeOf e).run P w = .ok 1 w := by
    cases hq : P.info? e with
    | none => simp [hq] at hs
    | some i => simp [hq] at hs; simp [sizeOf, typeInfo, hq, hs]
  have h1 : (isAgg e).run P w = .ok false w := by
    unfold isAgg
    rw [Sem.run_bind, run_underlying he w]
    cases d <;> simp_all
  have h0 : (0 : Int) ≤ (k : Int) ∧ (k : Int) < (n : Int) := ⟨by omega, by omega⟩
  simp only [Instr.index, asIntOf, Sem.run_bind, run_underlying ht, Result.andThen_ok, hsz, h0, and_self, if_true, Int.toNat_natCast, Nat.mul_one, part, h1, Sem.run_pure, Bool.false_eq_true, if_false, hv]
namespace Tu
def names : List Value := [.string (name 0), .string (name 1), .string (name 2), .string (name 3), .string (name 4), .string (name 5), .string (name 6), .string (name 7)]
theorem Named.range {w : World} (h : Named w) : w.rangeAt 0 0 names := by
  intro j v hj
  have hj8 : j < 8 := by
    have := (List.getElem?_eq_some_iff.1 hj).1; simpa [names] using this
  rw [Nat.zero_add, h j hj8]
  have : j = 0 ∨ j = 1 ∨ j = 2 ∨ j = 3 ∨ j = 4 ∨ j = 5 ∨ j = 6 ∨ j = 7 := by omega
  rcases this with rfl | rfl | rfl | rfl | rfl | rfl | rfl | rfl <;> exact hj
theorem names_get (j : Nat) (hj : j < 8) : names.toArray[j]? = some (.string (name j)) := by
  have : j = 0 ∨ j = 1 ∨ j = 2 ∨ j = 3 ∨ j = 4 ∨ j = 5 ∨ j = 6 ∨ j = 7 := by omega
  rcases this with rfl | rfl | rfl | rfl | rfl | rfl | rfl | rfl <;> rfl
theorem name_ascii (i : Nat) (hi : i < 8) : (∀ j (h : j < (name i).size), ((name i)[j]'h).toNat < 128) ∧ (name i).size ≤ 100 := by
  have : i = 0 ∨ i = 1 ∨ i = 2 ∨ i = 3 ∨ i = 4 ∨ i = 5 ∨ i = 6 ∨ i = 7 := by omega
  rcases this with rfl | rfl | rfl | rfl | rfl | rfl | rfl | rfl <;> decide +kernel
theorem name_inj (i j : Nat) (hi : i < 8) (hj : j < 8) (h : name i = name j) : i = j := by
  have key : ∀ a b : Fin 8, nameL a.1 = nameL b.1 → a = b := by decide +kernel
  have h2 : nameL i = nameL j := by
    have := congrArg (fun x : ByteArray => x.data.toList) h
    simpa [name] using this
  exact congrArg Fin.val (key ⟨i, hi⟩ ⟨j, hj⟩ h2)
/-- The turn of a name. -/
def kind (s : ByteArray) (n : Nat) : Prop := n < 8 ∧ s = name n
end Tu
theorem cells8Str' : (Tryd.prog.info? 58).map (·.size) = some Tu.names.length := by kernel_rfl
theorem cells1Str' : (Tryd.prog.info? 9).map (·.size) = some 1 := by kernel_rfl
set_option maxHeartbeats 2000000 in
theorem kind_yes (n : Nat) (hn : n < 8) (w : World) (hw : Tu.Named w) :
    Calls Tryd.prog 22 #[.string (Tu.name n)] w fun e w' => e = .returned (.tuple #[.int .i64 n, .bool true]) ∧ Below w.heap.size w w' := by
  have hr := hw.range
  go_enter Tryd.func22, Tryd.ntmps22
  go_wp2_with (refine wpList_load_mid rfl 58 _ rfl 0 0 rfl Tu.names _ hr Tryd.underlying58 rfl cells8Str' ?_)
  clear hr
  go_loopw [4, 5, 7] (fun _ _ i wr => ∃ k : Nat, k ≤ n ∧ i = .int .i64 k ∧ Below w.heap.size w wr) (fun _ _ i _ => 8 - (intOf i).toNat)
  case atStart => exact ⟨0, by omega, rfl, Below.refl _ _⟩
  case round =>
    obtain ⟨k, hk, rfl, hB⟩ := hrel
    have hk8 : k < 8 := by omega
    have hix := fun wx => run_index_row (P := Tryd.prog) wx 58 9 8 Tu.names.toArray _ Tryd.underlying58 Tryd.underlying9 rfl cells1Str' k hk8 _ (Tu.names_get k hk8)
    by_cases he : k = n
    · subst he
      go_wp2_with fail
      refine (same_eq _ (Tu.name_ascii _ hn).1 (Tu.name_ascii _ hn).2 _).mono ?_
      rintro e w1 ⟨rfl, hb1⟩
      go_wp2_with fail
      go_ret2
      exact ⟨rfl, hB.trans (hb1.mono hB.size)⟩
    · have hne : Tu.name k ≠ Tu.name n := fun e => he (Tu.name_inj k n hk8 hn e)
      go_wp2_with fail
      refine (same_ne _ _ (Tu.name_ascii _ hk8).1 (Tu.name_ascii _ hk8).2 (Nat.le_trans (Tu.name_ascii _ hn).2 (by omega)) hne _).mono ?_
      rintro e w1 ⟨rfl, hb1⟩
      go_wp2_with fail
      exact ⟨⟨k + 1, by omega, by go_num, hB.trans (hb1.mono hB.size)⟩, by simp [intOf]; omega⟩
set_option maxHeartbeats 2000000 in
theorem kind_no (s : ByteArray) (hs : s.size ≤ 9223372036854775807) (hne : ∀ n, n < 8 → s ≠ Tu.name n) (w : World) (hw : Tu.Named w) :
    Calls Tryd.prog 22 #[.string s] w fun e w' => e = .returned (.tuple #[.int .i64 0, .bool false]) ∧ Below w.heap.size w w' := by
  have hr := hw.range
  have HNE := Lib.hid hne
  clear hne
  go_enter Tryd.func22, Tryd.ntmps22
  go_wp2_with (refine wpList_load_mid rfl 58 _ rfl 0 0 rfl Tu.names _ hr Tryd.underlying58 rfl cells8Str' ?_)
  clear hr
  go_loopw [4, 5, 7] (fun _ _ i wr => ∃ k : Nat, k ≤ 8 ∧ i = .int .i64 k ∧ Below w.heap.size w wr) (fun _ _ i _ => 8 - (intOf i).toNat)
  case atStart => exact ⟨0, by omega, rfl, Below.refl _ _⟩
  case round =>
    obtain ⟨k, hk, rfl, hB⟩ := hrel
    by_cases hk8 : k < 8
    · have hix := fun wx => run_index_row (P := Tryd.prog) wx 58 9 8 Tu.names.toArray _ Tryd.underlying58 Tryd.underlying9 rfl cells1Str' k hk8 _ (Tu.names_get k hk8)
      go_wp2_with fail
      refine (same_ne _ _ (Tu.name_ascii _ hk8).1 (Tu.name_ascii _ hk8).2 hs (fun e => HNE.out k hk8 e.symm) _).mono ?_
      rintro e w1 ⟨rfl, hb1⟩
      go_wp2_with fail
      exact ⟨⟨k + 1, by omega, by go_num, hB.trans (hb1.mono hB.size)⟩, by simp [intOf]; omega⟩
    · obtain rfl : k = 8 := by omega
      go_wp2_with fail
      go_ret2
      exact ⟨rfl, hB⟩
end Go.Proofs.YtcdfamllamjpeaaDoor
