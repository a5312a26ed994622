/- Texts on one foundation, joined: Mem, ArrEq, Det, Det2, Mono, Inert, Det1, DetSeq, Open, OpenEl. -/
import Derived.WalkKit
import Derived.WalkSmall
import Derived.Lib.Hide
import Derived.Laws.StructEq
import Derived.OrdersHeld
import Derived.NoCompiler
import Derived.ProofKit
import Derived.OpenShut
import Derived.Deep.Slices
import Derived.Lib.SmallJoins
/- Plain facts on memory, over any program: whole blocks of cells known by number, through new blocks, stores and draws; arrays of integers. No Go text. -/
namespace Go.Proofs.Ytgmhhocpdfdplaa
open Go.RowKit
/-- Block g is a whole, unfrozen block of these cells. -/
def Blk (w : World) (g : Nat) (cs : Array Value) (t : TypeId) : Prop := w.heap[g]? = some (.cells cs t (0, 0))
theorem Blk.lt {w : World} {g : Nat} {cs : Array Value} {t : TypeId} (h : Blk w g cs t) : g < w.heap.size := (Array.getElem?_eq_some_iff.1 h).1
theorem Blk.cell {w : World} {g : Nat} {cs : Array Value} {t : TypeId} (h : Blk w g cs t) (i : Nat) : w.cell? ⟨g, i, none⟩ = cs[i]? := cell_of_row w g i cs t (0, 0) h
theorem Blk.free {w : World} {g : Nat} {cs : Array Value} {t : TypeId} (h : Blk w g cs t) (i : Nat) : w.frozen? ⟨g, i, none⟩ = false := frozen_of_row w g i cs t h
theorem Blk.new (w : World) (cs : Array Value) (t : TypeId) : Blk (w.alloc (.cells cs t)) w.heap.size cs t := heap_alloc_new w _
theorem Blk.new' (w : World) (cs : Array Value) (t : TypeId) {n : Nat} (hn : n = w.heap.size) : Blk (w.alloc (.cells cs t)) n cs t := hn ▸ heap_alloc_new w _
theorem Blk.alloc {w : World} {g : Nat} {cs : Array Value} {t : TypeId} (h : Blk w g cs t) (o : Obj) : Blk (w.alloc o) g cs t := (Below.heap_alloc w o g h.lt).trans h
theorem Blk.drew {w : World} {g : Nat} {cs : Array Value} {t : TypeId} (h : Blk w g cs t) : Blk w.drew g cs t := h
theorem Blk.drewN {w : World} {g : Nat} {cs : Array Value} {t : TypeId} (h : Blk w g cs t) (n : Nat) : Blk (w.drewN n) g cs t := h
theorem Blk.set {w : World} {g : Nat} {cs : Array Value} {t : TypeId} (h : Blk w g cs t) (i : Nat) (v : Value) : Blk (w.setCell ⟨g, i, none⟩ v) g (cs.setIfInBounds i v) t := heap_setCell_same w g i cs t v h
theorem Blk.other {w : World} {g : Nat} {cs : Array Value} {t : TypeId} (h : Blk w g cs t) (a : Addr) (v : Value) (hg : g ≠ a.block) : Blk (w.setCell a v) g cs t := (heap_setCell_other w a g v hg).trans h
theorem Blk.row {w : World} {g : Nat} {cs : Array Value} {t : TypeId} (h : Blk w g cs t) (ds : Array Value) : Blk (w.setRow g ds) g ds t := setRow_heap w g cs ds t _ h
theorem Blk.rowOther {w : World} {g : Nat} {cs : Array Value} {t : TypeId} (h : Blk w g cs t) (k : Nat) (ds : Array Value) (hk : g ≠ k) : Blk (w.setRow k ds) g cs t := (setRow_other w k g ds hk).trans h
theorem Blk.below {w w' : World} {g B : Nat} {cs : Array Value} {t : TypeId} (h : Blk w g cs t) (hb : Below B w w') (hg : g < B) : Blk w' g cs t := (hb.block g hg).trans h
theorem Below.setRow {B : Nat} {a w : World} (h : Below B a w) {g : Nat} (hg : B ≤ g) (ds : Array Value) : Below B a (w.setRow g ds) :=
  h.trans ⟨rfl, rfl, rfl, by simp, fun k hk => setRow_other w g k ds (by omega)⟩
/-- The world behind a point is any world that keeps what is said of it. -/
theorem wp_world {P : Program} {c : Code} {Q : Exit → Act → World → Prop} {a : Act} {w : World} (I : World → Prop) (h : I w) (k : ∀ W, I W → c.wp P Q a W) : c.wp P Q a w := k w h
/-- An array of integers, as cells. -/
def ints (k : IntKind) (xs : List Int) : Array Value := (xs.map (Value.int k)).toArray
@[simp] theorem ints_size (k : IntKind) (xs : List Int) : (ints k xs).size = xs.length := by simp [ints]
theorem ints_get (k : IntKind) (xs : List Int) (i : Nat) (h : i < xs.length) : (ints k xs)[i]? = some (.int k (xs.getD i 0)) := by
  simp [ints, List.getD_eq_getElem?_getD, List.getElem?_eq_getElem h]
theorem ints_set (k : IntKind) (xs : List Int) (i : Nat) (v : Int) : (ints k xs).setIfInBounds i (.int k v) = ints k (xs.set i v) := by
  unfold ints
  apply Array.ext'
  simp [List.map_set]
theorem ints_one (k : IntKind) (xs : List Int) : (ints k xs).all (·.oneCell') = true := by
  rw [Array.all_eq_true_iff_forall_mem]; intro v hv; simp [ints] at hv; obtain ⟨x, _, rfl⟩ := hv; rfl
theorem ints_inj {k : IntKind} {xs ys : List Int} : ints k xs = ints k ys ↔ xs = ys := by
  constructor
  · intro h
    have h2 : (xs.map (Value.int k)) = ys.map (Value.int k) := by simpa [ints] using h
    have : ∀ (a b : List Int), a.map (Value.int k) = b.map (Value.int k) → a = b := by
      intro a
      induction a with
      | nil => intro b h; cases b <;> simp_all
      | cons x a ih => intro b h; cases b with
        | nil => simp at h
        | cons y b => simp at h; obtain ⟨rfl, h⟩ := h; rw [ih b (by simpa using h)]
    exact this _ _ h2
  · rintro rfl; rfl
theorem ints_zero64 (k : IntKind) : ints k (List.replicate 64 0) = #[.int k 0, .int k 0, .int k 0, .int k 0, .int k 0, .int k 0, .int k 0, .int k 0,
  .int k 0, .int k 0, .int k 0, .int k 0, .int k 0, .int k 0, .int k 0, .int k 0, .int k 0, .int k 0, .int k 0, .int k 0, .int k 0, .int k 0, .int k 0, .int k 0,
  .int k 0, .int k 0, .int k 0, .int k 0, .int k 0, .int k 0, .int k 0, .int k 0, .int k 0, .int k 0, .int k 0, .int k 0, .int k 0, .int k 0, .int k 0, .int k 0,
  .int k 0, .int k 0, .int k 0, .int k 0, .int k 0, .int k 0, .int k 0, .int k 0, .int k 0, .int k 0, .int k 0, .int k 0, .int k 0, .int k 0, .int k 0, .int k 0,
  .int k 0, .int k 0, .int k 0, .int k 0, .int k 0, .int k 0, .int k 0, .int k 0] := rfl
end Go.Proofs.Ytgmhhocpdfdplaa
/- Equality of two arrays of integers, over any program: it is that of their numbers. -/
namespace Go.Proofs.Ytgmhhocpdfdplaa
open Go.RowKit
section
variable {P : Program}
theorem run_part_int (w : World) (e : TypeId) (k : IntKind) (xs : List Int) (i : Nat) (he : P.underlying e = some (.int k)) (hi : i < xs.length) :
    (part e (ints k xs) i).run P w = .ok (.int k (xs.getD i 0)) w := by
  unfold part
  have h1 : (isAgg e).run P w = .ok false w := by
    unfold isAgg
    rw [Sem.run_bind, run_underlying he w]
    simp
  rw [Sem.run_bind, h1]
  simp [ints_get k xs i hi]
theorem loop_ints (w : World) (d : Nat) (e : TypeId) (k : IntKind) (xs ys : List Int) (he : P.underlying e = some (.int k)) :
    ∀ (m i : Nat), i + m = xs.length → xs.length = ys.length → 
      (Sem.run P (forIn (m := Sem) (List.range' i m) ((none : Option Bool), ()) fun j _ => do
        if !(← Op.equalIn (d + 1) e (← part e (ints k xs) (j * 1)) (← part e (ints k ys) (j * 1))) then pure (.done (some false, ())) else pure (.yield (none, ()))) w) =
      .ok (if xs.drop i = ys.drop i then none else some false, ()) w
  | 0, i, hi, hl => by
    have h1 : xs.drop i = [] := List.drop_eq_nil_of_le (by omega)
    have h2 : ys.drop i = [] := List.drop_eq_nil_of_le (by omega)
    simp [h1, h2]
  | m + 1, i, hi, hl => by
    have hx : i < xs.length := by omega
    have hy : i < ys.length := by omega
    have ih := loop_ints w d e k xs ys he m (i + 1) (by omega) hl
    rw [List.range'_succ, List.forIn_cons]
    have hdx : xs.drop i = xs.getD i 0 :: xs.drop (i + 1) := by rw [List.drop_eq_getElem_cons hx, List.getD_eq_getElem?_getD, List.getElem?_eq_getElem hx]; rfl
    have hdy : ys.drop i = ys.getD i 0 :: ys.drop (i + 1) := by rw [List.drop_eq_getElem_cons hy, List.getD_eq_getElem?_getD, List.getElem?_eq_getElem hy]; rfl
    rw [hdx, hdy]
    simp only [Nat.mul_one] at ih ⊢
    simp only [Sem.run_bind, run_part_int w e k xs i he hx, run_part_int w e k ys i he hy, Result.andThen_ok, run_equalIn_int w d e k k _ _ he]
    by_cases h : xs.getD i 0 = ys.getD i 0
    · simp only [h, beq_self_eq_true, Bool.not_true, Bool.false_eq_true, if_false, Sem.run_pure, Result.andThen_ok, ih, List.cons.injEq, true_and]
    · have h' : (xs.getD i 0 == ys.getD i 0) = false := by simpa using h
      simp only [h', Bool.not_false, if_true, Sem.run_pure, Result.andThen_ok, List.cons.injEq, h, false_and, if_false]
theorem run_equalIn_ints (w : World) (d n : Nat) (t e : TypeId) (k : IntKind) (xs ys : List Int) (ht : P.underlying t = some (.array n e)) (he : P.underlying e = some (.int k)) (hs : (P.info? e).map (·.size) = some 1)
    (hx : xs.length = n) (hy : ys.length = n) : (Op.equalIn (d + 2) t (.agg (ints k xs)) (.agg (ints k ys))).run P w = .ok (decide (xs = ys)) w := by
  have hsz : (sizeOf e).run P w = .ok 1 w := by
    cases hq : P.info? e with
    | none => simp [hq] at hs
    | some i => simp [hq] at hs; simp [sizeOf, typeInfo, hq, hs]
  have hl := loop_ints w d e k xs ys he n 0 (by omega) (by omega)
  simp only [List.drop_zero] at hl
  obtain ⟨D, hD⟩ : ∃ D, D = d + 1 := ⟨_, rfl⟩
  rw [show d + 2 = D + 1 by omega]
  rw [← hD] at hl
  simp only [Op.equalIn, Sem.run_bind, run_underlying ht, Result.andThen_ok, hsz]
  rw [Std.Legacy.Range.forIn_eq_forIn_range']
  simp only [Std.Legacy.Range.size, Nat.sub_zero, Nat.add_sub_cancel, Nat.div_one]
  rw [hl]
  simp only [Result.andThen_ok]
  by_cases h : xs = ys
  · simp [h]
  · simp [h]
end
section
variable {P : Program}
theorem run_eql_ints (w : World) (n : Nat) (t e : TypeId) (k : IntKind) (xs ys : List Int) (ht : P.underlying t = some (.array n e)) (he : P.underlying e = some (.int k)) (hs : (P.info? e).map (·.size) = some 1)
    (hx : xs.length = n) (hy : ys.length = n) : (binOp .eql t (.agg (ints k xs)) (.agg (ints k ys))).run P w = .ok (.bool (decide (xs = ys))) w := by
  rw [run_eql_struct, show (10000 : Nat) = 9998 + 2 from rfl, run_equalIn_ints w 9998 n t e k xs ys ht he hs hx hy]
  rfl
theorem run_neq_ints (w : World) (n : Nat) (t e : TypeId) (k : IntKind) (xs ys : List Int) (ht : P.underlying t = some (.array n e)) (he : P.underlying e = some (.int k)) (hs : (P.info? e).map (·.size) = some 1)
    (hx : xs.length = n) (hy : ys.length = n) : (binOp .neq t (.agg (ints k xs)) (.agg (ints k ys))).run P w = .ok (.bool (!decide (xs = ys))) w := by
  rw [run_neq_struct, show (10000 : Nat) = 9998 + 2 from rfl, run_equalIn_ints w 9998 n t e k xs ys ht he hs hx hy]
  rfl
end
end Go.Proofs.Ytgmhhocpdfdplaa
/- A region that draws its order, each of whose operations yields one value in every world that meets a condition S and keeps S: it may be walked in the order of the text. Over any program. -/
namespace Go.Proofs.Ytgmhhocpdfdplaa
open Go.RowKit
/-- An operation's run yields v in every world that meets S, and S holds behind it. -/
def RunYields (P : Program) (S : World → Prop) (v : Value) : Result Next → Prop
  | .ok (.value v') w' => v' = v ∧ S w'
  | .ok .skip w' => undef = v ∧ S w'
  | .ok (.enter f args) w' => Calls P f args w' fun e w'' => e = .returned v ∧ S w''
  | .ok (.row row args) w' => Rows P row args w' fun v' w'' => v' = v ∧ S w''
  | _ => False
def YieldsS (P : Program) (ops : Array Oper) (S : World → Prop) (o : Oper) (v : Value) (a : Act) : Prop :=
  (Region.wanted o (yielded ops a.tmps) = true ∧ ∀ w, S w → RunYields P S v ((execOp a.eval o).run P w)) ∨
  (Region.wanted o (yielded ops a.tmps) = false ∧ v = undef)
section
variable {P : Program} {ops : Array Oper} {md : Region.Mode} {S : World → Prop} {Q : Exit → Act → World → Prop} {F : Act → Prop}
theorem YieldsS.of_same {o : Oper} {v : Value} {a a' : Act} (hy : YieldsS P ops S o v a) (he : execOp a'.eval o = execOp a.eval o)
    (hw : Region.wanted o (yielded ops a'.tmps) = Region.wanted o (yielded ops a.tmps)) : YieldsS P ops S o v a' := by
  unfold YieldsS at *
  rw [he, hw]
  exact hy
theorem YieldsS.wpOp {i : Nat} {o : Oper} {v : Value} {a : Act} (hi : ops[i]? = some o) (hy : YieldsS P ops S o v a)
    {K : Act → World → Prop} {w : World} (hS : S w) (h : ∀ w', S w' → K (a.put o.dst v) w') : wpOp P ops Q i K a w := by
  unfold Go.wpOp
  simp only [hi]
  rcases hy with ⟨hw, hv⟩ | ⟨hw, rfl⟩
  · simp only [hw, if_true]
    refine .inl ?_
    have hr := hv w hS
    unfold Oper.wp
    generalize (execOp a.eval o).run P w = r at hr
    cases r with
    | ok n w' =>
      cases n <;> simp only [RunYields, Oper.upon] at hr ⊢
      case value u => obtain ⟨rfl, hS'⟩ := hr; exact h _ hS'
      case skip => obtain ⟨hu, hS'⟩ := hr; rw [hu]; exact h _ hS'
      case enter f args => exact Calls.mono hr (fun e w'' he => by obtain ⟨rfl, hS'⟩ := he; exact h _ hS')
      case row row args => exact Rows.mono hr (fun u w'' he => by obtain ⟨rfl, hS'⟩ := he; exact h _ hS')
    | halt x w' => simp [RunYields] at hr
  · simp only [hw, Bool.false_eq_true, if_false]; exact h _ hS
/-- Whatever order is picked from here on, every operation yields its value in every world that meets S. -/
def detAny (P : Program) (md : Region.Mode) (ops : Array Oper) (S : World → Prop) (F : Act → Prop) : Nat → Array Bool → Act → Prop
  | 0, listed, a => Region.ready md ops listed = [] ∧ F a
  | n + 1, listed, a => (Region.ready md ops listed = [] → F a) ∧
    ∀ i ∈ Region.ready md ops listed, ∃ o v, ops[i]? = some o ∧ YieldsS P ops S o v a ∧ detAny P md ops S F n (listed.setIfInBounds i true) (a.put o.dst v)
theorem detAny_sound : ∀ (n : Nat) (listed : Array Bool) (a : Act), detAny P md ops S (fun a => ∀ w, S w → Q .normal a w) n listed a → ∀ w, S w → wpAny P md ops Q n listed a w
  | 0, _, _, h, w, hS => ⟨h.1, h.2 w hS⟩
  | n + 1, _, _, h, w, hS => ⟨fun hr => h.1 hr w hS, fun i hi => by
      obtain ⟨o, v, ho, hy, hd⟩ := h.2 i hi
      exact hy.wpOp ho hS (fun w' hS' => detAny_sound n _ _ hd w' hS')⟩
theorem detAny_first {i : Nat} {oi : Oper} {v : Value} (hi : ops[i]? = some oi) (hsel : ∀ (j : Nat) (o : Oper) cs b, ops[j]? = some o → o.op ≠ .select cs b) :
    ∀ (n : Nat) (listed : Array Bool) (a : Act),
      (∀ j oj, ops[j]? = some oj → j ≠ i → listed.getD j true = false → (∀ e ∈ oj.after, Region.binds md e = true → e.on ≠ i) → oi.apart ops oj = true) →
      i ∈ Region.ready md ops listed → YieldsS P ops S oi v a →
      detAny P md ops S F n (listed.setIfInBounds i true) (a.put oi.dst v) → detAny P md ops S F (n + 1) listed a := by
  intro n
  induction n with
  | zero =>
    intro listed a _ hr hy H
    refine ⟨fun h => (by rw [h] at hr; cases hr), fun j hj => ?_⟩
    by_cases hji : j = i
    · subst hji; exact ⟨oi, v, hi, hy, H⟩
    · have := ready_mono hj hji
      rw [H.1] at this
      cases this
  | succ n ih =>
    intro listed a hfree hr hy H
    refine ⟨fun h => (by rw [h] at hr; cases hr), fun j hj => ?_⟩
    by_cases hji : j = i
    · subst hji; exact ⟨oi, v, hi, hy, H⟩
    · obtain ⟨oj, vj, hoj, hyj, Hj⟩ := H.2 j (ready_mono hj hji)
      obtain ⟨hjun, oj', hoj', hall⟩ := mem_ready.1 hj
      obtain rfl : oj' = oj := Option.some.inj (hoj'.symm.trans hoj)
      have hnot : ∀ e ∈ oj'.after, Region.binds md e = true → e.on ≠ i := fun e he hb heq => by
        have h1 := hall e he hb
        have h0 := (mem_ready.1 hr).1
        rw [heq] at h1
        rcases Nat.lt_or_ge i listed.size with h' | h'
        · simp [h'] at h0 h1; rw [h0] at h1; cases h1
        · simp [Array.getElem?_eq_none h'] at h1
      have hap := hfree j oj' hoj hji hjun hnot
      obtain ⟨h1, h2, h3⟩ := Oper.apart_spec hap
      have hsi : ∀ cs b, oi.op ≠ .select cs b := fun cs b => hsel i oi cs b hi
      have hsj : ∀ cs b, oj'.op ≠ .select cs b := fun cs b => hsel j oj' cs b hoj
      have hfree' : ∀ k ok, ops[k]? = some ok → k ≠ i → (listed.setIfInBounds j true).getD k true = false →
          (∀ e ∈ ok.after, Region.binds md e = true → e.on ≠ i) → oi.apart ops ok = true := fun k ok hk hki hun hno => by
        refine hfree k ok hk hki ?_ hno
        by_cases hjk : j = k
        · subst hjk; exact hjun
        · rw [getD_set_ne true hjk] at hun; exact hun
      refine ⟨oj', vj, hoj, hyj.of_same (execOp_put oj' hsj a oi.dst v h1).symm (wanted_put oj' a oi.dst v h1).symm, ?_⟩
      refine ih (listed.setIfInBounds j true) (a.put oj'.dst vj) hfree' (ready_mono hr (Ne.symm hji)) (hy.of_same (execOp_put oi hsi a oj'.dst vj h3) (wanted_put oi a oj'.dst vj h3)) ?_
      rw [Array.setIfInBounds_comm _ _ hji, ← Act.put_comm a v vj h2]
      exact Hj
/-- The text's own order is one that may be picked, operation by operation. -/
def inOrder (md : Region.Mode) (ops : Array Oper) : List Nat → Array Bool → Bool
  | [], listed => (Region.ready md ops listed).isEmpty
  | i :: r, listed => Region.free md ops listed i && (Region.ready md ops listed).contains i && inOrder md ops r (listed.setIfInBounds i true)
def detList (P : Program) (ops : Array Oper) (S : World → Prop) (F : Act → Prop) : List Oper → Act → Prop
  | [], a => F a
  | o :: rest, a => ∃ v, YieldsS P ops S o v a ∧ detList P ops S F rest (a.put o.dst v)
theorem detAny_list (hsel : Region.noSelect ops = true) : ∀ (l : List Oper) (k : Nat) (listed : Array Bool) (a : Act), (∀ j, l[j]? = ops[k + j]?) →
    inOrder md ops (List.range' k l.length) listed = true → detList P ops S F l a → detAny P md ops S F l.length listed a
  | [], k, listed, a, _, ho, h => by
    simp only [List.length_nil, List.range'_zero, inOrder, List.isEmpty_iff] at ho
    exact ⟨ho, h⟩
  | o :: l, k, listed, a, hl, ho, h => by
    have h0 : ops[k]? = some o := by simpa using (hl 0).symm
    simp only [List.length_cons, List.range'_succ, inOrder, Bool.and_eq_true] at ho
    obtain ⟨⟨hf, hr⟩, ho⟩ := ho
    obtain ⟨v, hy, hd⟩ := h
    exact detAny_first h0 (Region.noSelect_spec hsel) l.length listed a (Region.free_spec h0 hf) (by simpa using hr) hy
      (detAny_list hsel l (k + 1) _ _ (fun j => by have := hl (j + 1); simpa [Nat.add_assoc, Nat.add_comm 1 j] using this) ho hd)
end
/-- All that is asked of a region's own text. -/
def detOk (l : List Oper) : Bool := Region.noSelect l.toArray && inOrder .any l.toArray (List.range' 0 l.length) (Array.replicate l.length false)
theorem wp_region_det {P : Program} {id : Nat} {l : List Oper} {Q : Exit → Act → World → Prop} {a : Act} {w : World} (S : World → Prop) (hm : P.follows .mixedOrders = true)
    (hok : detOk l = true) (hS : S w.drew) (h : detList P l.toArray S (fun a => ∀ w, S w → Q .normal a w) l a) : (Code.region id l.toArray true).wp P Q a w := by
  simp only [detOk, Bool.and_eq_true] at hok
  have hd := detAny_list (md := .any) (P := P) (S := S) hok.1 l 0 (Array.replicate l.length false) a (fun j => by simp) hok.2 h
  refine wp_region_any hm ?_
  have := detAny_sound (Q := Q) _ _ _ hd w.drew hS
  simpa using this
/-! The steps. -/
section
variable {P : Program} {ops : Array Oper} {S : World → Prop} {F : Act → Prop} {o : Oper} {rest : List Oper} {a : Act}
theorem det_nil (h : F a) : detList P ops S F [] a := h
theorem det_pure {v : Value} (hw : Region.wanted o (yielded ops a.tmps) = true) (h : ∀ w, S w → (execOp a.eval o).run P w = .ok (.value v) w)
    (k : detList P ops S F rest (a.put o.dst v)) : detList P ops S F (o :: rest) a :=
  ⟨v, .inl ⟨hw, fun w hS => by rw [h w hS]; exact ⟨rfl, hS⟩⟩, k⟩
theorem det_skip (hw : Region.wanted o (yielded ops a.tmps) = false) (k : detList P ops S F rest (a.put o.dst undef)) : detList P ops S F (o :: rest) a :=
  ⟨undef, .inr ⟨hw, rfl⟩, k⟩
theorem det_call {v : Value} {f : FuncId} {args : Array Value} (hw : Region.wanted o (yielded ops a.tmps) = true) (h : ∀ w, S w → (execOp a.eval o).run P w = .ok (.enter f args) w)
    (hc : ∀ w, S w → Calls P f args w fun e w' => e = .returned v ∧ S w') (k : detList P ops S F rest (a.put o.dst v)) : detList P ops S F (o :: rest) a :=
  ⟨v, .inl ⟨hw, fun w hS => by rw [h w hS]; exact hc w hS⟩, k⟩
theorem det_any {v : Value} (hw : Region.wanted o (yielded ops a.tmps) = true) (h : ∀ w, S w → RunYields P S v ((execOp a.eval o).run P w))
    (k : detList P ops S F rest (a.put o.dst v)) : detList P ops S F (o :: rest) a := ⟨v, .inl ⟨hw, h⟩, k⟩
end
end Go.Proofs.Ytgmhhocpdfdplaa
/- Steps for whole arrays, in a region that draws its order and in one that does not: loads, comparisons. Over any program. -/
namespace Go.Proofs.Ytgmhhocpdfdplaa
open Go.RowKit
section
variable {P : Program} {ops : Array Oper} {S : World → Prop} {F : Act → Prop} {o : Oper} {rest : List Oper} {a : Act}
theorem run_exec_load_row {w : World} (ty : TypeId) (x : Operand) (ho : o.op = .load ty x) (g : Nat) (hx : a.eval x = .pointer (some ⟨g, 0, none⟩)) (t : TypeId) (cs : Array Value) (d : TypeDesc) (hb : Blk w g cs t)
    (hu : P.underlying ty = some d) (hd : (match d with | .struct _ | .array _ _ => true | _ => false) = true) (hi : (P.info? ty).map (·.size) = some cs.size) :
    (execOp a.eval o).run P w = .ok (.value (.agg cs)) w := by
  unfold execOp
  simp only [ho, hx, Instr.loadAt, Instr.sureAddr, Sem.run_bind, Sem.run_pure, Result.andThen_ok, run_loadVar_row w g t ty cs (0, 0) d hb hu hd hi]
theorem det_load_row (hw : Region.wanted o (yielded ops a.tmps) = true) (ty : TypeId) (x : Operand) (ho : o.op = .load ty x) (g : Nat) (hx : a.eval x = .pointer (some ⟨g, 0, none⟩)) (t : TypeId) (cs : Array Value) (d : TypeDesc)
    (hS : ∀ w, S w → Blk w g cs t) (hu : P.underlying ty = some d) (hd : (match d with | .struct _ | .array _ _ => true | _ => false) = true) (hi : (P.info? ty).map (·.size) = some cs.size)
    (k : detList P ops S F rest (a.put o.dst (.agg cs))) : detList P ops S F (o :: rest) a :=
  det_pure hw (fun w hS' => run_exec_load_row ty x ho g hx t cs d (hS w hS') hu hd hi) k
theorem run_exec_eql_ints {w : World} (t ty : TypeId) (x y : Operand) (ho : o.op = .binOp .eql t x y ty) (e : TypeId) (n : Nat) (kd : IntKind) (xs ys : List Int) (hx : a.eval x = .agg (ints kd xs)) (hy : a.eval y = .agg (ints kd ys))
    (ht : P.underlying t = some (.array n e)) (he : P.underlying e = some (.int kd)) (hs : (P.info? e).map (·.size) = some 1) (hlx : xs.length = n) (hly : ys.length = n) (hm : P.eqGuardType P.depth t = false) :
    (execOp a.eval o).run P w = .ok (.value (.bool (decide (xs = ys)))) w := by
  unfold execOp
  simp only [ho, hx, hy, Sem.run_bind, Sem.run_pure, Result.andThen_ok, run_eqGuard_agg w .eql t x y _ _ hm, run_eql_ints w n t e kd xs ys ht he hs hlx hly]
theorem run_exec_neq_ints {w : World} (t ty : TypeId) (x y : Operand) (ho : o.op = .binOp .neq t x y ty) (e : TypeId) (n : Nat) (kd : IntKind) (xs ys : List Int) (hx : a.eval x = .agg (ints kd xs)) (hy : a.eval y = .agg (ints kd ys))
    (ht : P.underlying t = some (.array n e)) (he : P.underlying e = some (.int kd)) (hs : (P.info? e).map (·.size) = some 1) (hlx : xs.length = n) (hly : ys.length = n) (hm : P.eqGuardType P.depth t = false) :
    (execOp a.eval o).run P w = .ok (.value (.bool (!decide (xs = ys)))) w := by
  unfold execOp
  simp only [ho, hx, hy, Sem.run_bind, Sem.run_pure, Result.andThen_ok, run_eqGuard_agg w .neq t x y _ _ hm, run_neq_ints w n t e kd xs ys ht he hs hlx hly]
end
end Go.Proofs.Ytgmhhocpdfdplaa
/- A region that draws its order, whose operations only read, or make new memory of which facts are known that last, before its stores: it may be walked in the order of the text, each new memory's place unknown. Over any program. -/
namespace Go.Proofs.Ytgmhhocpdfdplaa
open Go.RowKit
/-- A fact on what was made between two heap sizes. -/
abbrev Fact := Nat → Nat → World → Prop
/-- What an operation that makes memory yields, by its operands: a value, and a fact. -/
structure MSpec where
  pv : List Value → Value → Prop
  fa : List Value → Value → Fact
def Fact.Mono (f : Fact) : Prop := ∀ lo hi w w', f lo hi w → hi ≤ w.heap.size → Below w.heap.size w w' → f lo hi w'
def opArgs (a : Act) (o : Oper) : List Value := o.op.operands.toList.map a.eval
def RunM (P : Program) (G : World → Prop) (s : MSpec) (args : List Value) (w : World) : Result Next → Prop
  | .ok (.value v) w' => s.pv args v ∧ G w' ∧ Below w.heap.size w w' ∧ s.fa args v w.heap.size w'.heap.size w'
  | .ok (.enter f as) w1 => Calls P f as w1 fun e w' => ∃ v, e = .returned v ∧ s.pv args v ∧ G w' ∧ Below w.heap.size w w' ∧ s.fa args v w.heap.size w'.heap.size w'
  | _ => False
def upd (Fs : Nat → Option Fact) (i : Nat) (f : Fact) : Nat → Option Fact := fun k => if k = i then some f else Fs k
theorem upd_self (Fs : Nat → Option Fact) (i : Nat) (f : Fact) : upd Fs i f i = some f := if_pos rfl
theorem upd_comm (Fs : Nat → Option Fact) {i j : Nat} (h : i ≠ j) (f g : Fact) : upd (upd Fs i f) j g = upd (upd Fs j g) i f := by
  funext k
  unfold upd
  by_cases h1 : k = i <;> by_cases h2 : k = j <;> simp [h1, h2]
  · exact absurd (h1.symm.trans h2) h
  · intro e; exact absurd e h
  · intro e; exact absurd e.symm h
/-- The facts of these operations hold. -/
def Has (Fs : Nat → Option Fact) (D : List Nat) (w : World) : Prop := ∀ d ∈ D, ∀ f, Fs d = some f → ∃ lo hi, f lo hi w
theorem Has.iff_upd {Fs : Nat → Option Fact} {D : List Nat} {w : World} {i : Nat} (f : Fact) (hi : i ∉ D) : Has (upd Fs i f) D w ↔ Has Fs D w := by
  unfold Has upd
  constructor
  · intro h d hd g hg
    have hne : d ≠ i := fun e => hi (by rw [← e]; exact hd)
    exact h d hd g (by rw [if_neg hne]; exact hg)
  · intro h d hd g hg
    have hne : d ≠ i := fun e => hi (by rw [← e]; exact hd)
    rw [if_neg hne] at hg
    exact h d hd g hg
def StepM (P : Program) (ops : Array Oper) (G : World → Prop) (sp : Nat → Option MSpec) (dep : Nat → List Nat) (i : Nat) (o : Oper) (a : Act) (Fs : Nat → Option Fact) (K : Act → (Nat → Option Fact) → Prop) : Prop :=
  (Region.wanted o (yielded ops a.tmps) = false ∧ K (a.put o.dst undef) Fs) ∨
  (Region.wanted o (yielded ops a.tmps) = true ∧
    match sp i with
    | none => ∃ v, (∀ w, G w → (execOp a.eval o).run P w = .ok (.value v) w) ∧ K (a.put o.dst v) Fs
    | some s => (∃ v, s.pv (opArgs a o) v) ∧ (∀ w, G w → Has Fs (dep i) w → RunM P G s (opArgs a o) w ((execOp a.eval o).run P w)) ∧ ∀ v, s.pv (opArgs a o) v → K (a.put o.dst v) (upd Fs i (s.fa (opArgs a o) v)))
theorem opArgs_put {ops : Array Oper} (o : Oper) (a : Act) (dst : Option Tmp) (v : Value) (h : ∀ d, dst = some d → d ∉ o.looksAt ops) : opArgs (a.put dst v) o = opArgs a o := by
  unfold opArgs
  apply List.map_congr_left
  intro x hx
  exact Act.eval_put fun d hd hxd => h d hd (by
    subst hxd
    exact List.mem_append_left _ (List.mem_filterMap.2 ⟨.tmp d, by simpa using hx, rfl⟩))
def detM (P : Program) (md : Region.Mode) (ops : Array Oper) (G : World → Prop) (sp : Nat → Option MSpec) (dep : Nat → List Nat) (Fr : Nat → Bool) (Fin : Array Bool → Act → (Nat → Option Fact) → Prop) : Nat → Array Bool → Act → (Nat → Option Fact) → Prop
  | 0, listed, a, Fs => (∀ j ∈ Region.ready md ops listed, ¬ Fr j = true) ∧ Fin listed a Fs
  | n + 1, listed, a, Fs => (∃ i ∈ Region.ready md ops listed, Fr i = true) ∧ ∀ i ∈ Region.ready md ops listed, Fr i = true → ∃ o, ops[i]? = some o ∧ StepM P ops G sp dep i o a Fs (detM P md ops G sp dep Fr Fin n (listed.setIfInBounds i true))
section
variable {P : Program} {ops : Array Oper} {md : Region.Mode} {G : World → Prop} {sp : Nat → Option MSpec} {dep : Nat → List Nat} {Fr : Nat → Bool} {Fin : Array Bool → Act → (Nat → Option Fact) → Prop} {Q : Exit → Act → World → Prop}
theorem StepM.mono {i : Nat} {o : Oper} {a : Act} {Fs : Nat → Option Fact} {K K' : Act → (Nat → Option Fact) → Prop} (h : StepM P ops G sp dep i o a Fs K) (hk : ∀ a Fs, K a Fs → K' a Fs) : StepM P ops G sp dep i o a Fs K' := by
  rcases h with ⟨hw, h⟩ | ⟨hw, h⟩
  · exact .inl ⟨hw, hk _ _ h⟩
  · refine .inr ⟨hw, ?_⟩
    cases hs : sp i with
    | none => rw [hs] at h; obtain ⟨v, h1, h2⟩ := h; exact ⟨v, h1, hk _ _ h2⟩
    | some s => rw [hs] at h; exact ⟨h.1, h.2.1, fun v hv => hk _ _ (h.2.2 v hv)⟩
/-- Two operations that are apart: what the second does behind the first it does ahead of it, and the first behind it. -/
theorem StepM.swap (hG : ∃ w, G w) {i j : Nat} {oi oj : Oper} (hij : j ≠ i) (hdi : j ∉ dep i) (hdj : i ∉ dep j) (hap : oi.apart ops oj = true) (hsi : ∀ cs b, oi.op ≠ .select cs b) (hsj : ∀ cs b, oj.op ≠ .select cs b)
    {a : Act} {Fs : Nat → Option Fact} {K : Act → (Nat → Option Fact) → Prop} (h : StepM P ops G sp dep i oi a Fs fun a' Fs' => StepM P ops G sp dep j oj a' Fs' K) :
    StepM P ops G sp dep j oj a Fs fun a' Fs' => StepM P ops G sp dep i oi a' Fs' K := by
  obtain ⟨h1, h2, h3⟩ := Oper.apart_spec hap
  have wj : ∀ (a : Act) v, Region.wanted oj (yielded ops (a.put oi.dst v).tmps) = Region.wanted oj (yielded ops a.tmps) := fun a v => wanted_put oj a oi.dst v h1
  have wi : ∀ (a : Act) v, Region.wanted oi (yielded ops (a.put oj.dst v).tmps) = Region.wanted oi (yielded ops a.tmps) := fun a v => wanted_put oi a oj.dst v h3
  have ej : ∀ (a : Act) v, execOp (a.put oi.dst v).eval oj = execOp a.eval oj := fun a v => execOp_put oj hsj a oi.dst v h1
  have ei : ∀ (a : Act) v, execOp (a.put oj.dst v).eval oi = execOp a.eval oi := fun a v => execOp_put oi hsi a oj.dst v h3
  have aj : ∀ (a : Act) v, opArgs (a.put oi.dst v) oj = opArgs a oj := fun a v => opArgs_put oj a oi.dst v h1
  have ai : ∀ (a : Act) v, opArgs (a.put oj.dst v) oi = opArgs a oi := fun a v => opArgs_put oi a oj.dst v h3
  have pc : ∀ (a : Act) v u, (a.put oi.dst v).put oj.dst u = (a.put oj.dst u).put oi.dst v := fun a v u => Act.put_comm a v u h2
  -- the first's outcome, as a choice that hangs on its own operands alone
  rcases h with ⟨hwi, h⟩ | ⟨hwi, h⟩
  · rcases h with ⟨hwj, h⟩ | ⟨hwj, h⟩
    · exact .inl ⟨by rw [← hwj, wj], .inl ⟨by rw [wi, hwi], by rw [← pc]; exact h⟩⟩
    · refine .inr ⟨by rw [← hwj, wj], ?_⟩
      cases hs : sp j with
      | none => rw [hs] at h; obtain ⟨v, h4, h5⟩ := h; rw [ej] at h4; exact ⟨v, h4, .inl ⟨by rw [wi, hwi], by rw [← pc]; exact h5⟩⟩
      | some s => rw [hs] at h; rw [aj, ej] at h; exact ⟨h.1, h.2.1, fun v hv => .inl ⟨by rw [wi, hwi], by rw [← pc]; exact h.2.2 v hv⟩⟩
  · cases hsi' : sp i with
    | none =>
      rw [hsi'] at h
      obtain ⟨v, hv, h⟩ := h
      rcases h with ⟨hwj, h⟩ | ⟨hwj, h⟩
      · exact .inl ⟨by rw [← hwj, wj], .inr ⟨by rw [wi, hwi], by rw [hsi']; exact ⟨v, by rw [ei]; exact hv, by rw [← pc]; exact h⟩⟩⟩
      · refine .inr ⟨by rw [← hwj, wj], ?_⟩
        cases hs : sp j with
        | none =>
          rw [hs] at h; obtain ⟨u, h4, h5⟩ := h; rw [ej] at h4
          exact ⟨u, h4, .inr ⟨by rw [wi, hwi], by rw [hsi']; exact ⟨v, by rw [ei]; exact hv, by rw [← pc]; exact h5⟩⟩⟩
        | some s =>
          rw [hs] at h; rw [aj, ej] at h
          exact ⟨h.1, h.2.1, fun u hu => .inr ⟨by rw [wi, hwi], by rw [hsi']; exact ⟨v, by rw [ei]; exact hv, by rw [← pc]; exact h.2.2 u hu⟩⟩⟩
    | some si =>
      rw [hsi'] at h
      obtain ⟨⟨v0, hv0⟩, hri, h⟩ := h
      obtain ⟨w0, hw0⟩ := hG
      cases hwj : Region.wanted oj (yielded ops a.tmps) with
      | false =>
        refine .inl ⟨hwj, .inr ⟨by rw [wi, hwi], ?_⟩⟩
        rw [hsi']
        refine ⟨⟨v0, by rw [ai]; exact hv0⟩, by rw [ei, ai]; exact hri, fun v hv => ?_⟩
        rw [ai] at hv ⊢
        rcases h v hv with ⟨_, h⟩ | ⟨hwj', _⟩
        · rw [← pc]; exact h
        · rw [wj, hwj] at hwj'; cases hwj'
      | true =>
        refine .inr ⟨hwj, ?_⟩
        cases hs : sp j with
        | none =>
          have hj0 := h v0 hv0
          rcases hj0 with ⟨hwj', _⟩ | ⟨_, hj0⟩
          · rw [wj, hwj] at hwj'; cases hwj'
          · rw [hs] at hj0
            obtain ⟨u, hu, _⟩ := hj0
            rw [ej] at hu
            refine ⟨u, hu, .inr ⟨by rw [wi, hwi], ?_⟩⟩
            rw [hsi']
            refine ⟨⟨v0, by rw [ai]; exact hv0⟩, by rw [ei, ai]; exact hri, fun v hv => ?_⟩
            rw [ai] at hv ⊢
            rcases h v hv with ⟨hwj', _⟩ | ⟨_, h⟩
            · rw [wj, hwj] at hwj'; cases hwj'
            · rw [hs] at h
              obtain ⟨u', hu', h⟩ := h
              rw [ej] at hu'
              have e1 := hu w0 hw0
              rw [hu' w0 hw0] at e1
              simp only [Result.ok.injEq, Next.value.injEq, and_true] at e1
              subst e1
              rw [← pc]; exact h
        | some s =>
          have hj0 := h v0 hv0
          rcases hj0 with ⟨hwj', _⟩ | ⟨_, hj0⟩
          · rw [wj, hwj] at hwj'; cases hwj'
          · rw [hs] at hj0
            rw [ej, aj] at hj0
            refine ⟨hj0.1, fun w hw hH => hj0.2.1 w hw ((Has.iff_upd _ hdj).2 hH), fun u hu => .inr ⟨by rw [wi, hwi], ?_⟩⟩
            rw [hsi']
            refine ⟨⟨v0, by rw [ai]; exact hv0⟩, by rw [ei, ai]; exact fun w hw hH => hri w hw ((Has.iff_upd _ hdi).1 hH), fun v hv => ?_⟩
            rw [ai] at hv ⊢
            rcases h v hv with ⟨hwj', _⟩ | ⟨_, h⟩
            · rw [wj, hwj] at hwj'; cases hwj'
            · rw [hs] at h
              rw [aj] at h
              rw [← pc, upd_comm _ hij]; exact h.2.2 u hu
theorem detM_first (hG : ∃ w, G w) {i : Nat} {oi : Oper} (hi : ops[i]? = some oi) (him : Fr i = true) (hsel : ∀ (j : Nat) (o : Oper) cs b, ops[j]? = some o → o.op ≠ .select cs b) :
    ∀ (n : Nat) (listed : Array Bool) (a : Act) (Fs : Nat → Option Fact),
      (∀ j oj, ops[j]? = some oj → j ≠ i → listed.getD j true = false → (∀ e ∈ oj.after, Region.binds md e = true → e.on ≠ i) → oi.apart ops oj = true ∧ j ∉ dep i ∧ i ∉ dep j) →
      i ∈ Region.ready md ops listed → StepM P ops G sp dep i oi a Fs (detM P md ops G sp dep Fr Fin n (listed.setIfInBounds i true)) → detM P md ops G sp dep Fr Fin (n + 1) listed a Fs := by
  intro n
  induction n with
  | zero =>
    intro listed a Fs _ hr hy
    refine ⟨⟨i, hr, him⟩, fun j hj hjm => ?_⟩
    by_cases hji : j = i
    · subst hji; exact ⟨oi, hi, hy⟩
    · exfalso
      have hno : ∀ j ∈ Region.ready md ops (listed.setIfInBounds i true), ¬ Fr j = true := by
        rcases hy with ⟨_, h⟩ | ⟨_, h⟩
        · exact h.1
        · cases hs : sp i with
          | none => rw [hs] at h; obtain ⟨v, _, h⟩ := h; exact h.1
          | some s =>
            rw [hs] at h
            obtain ⟨⟨v0, hv0⟩, _, h⟩ := h
            exact (h v0 hv0).1
      exact hno j (ready_mono hj hji) hjm
  | succ n ih =>
    intro listed a Fs hfree hr hy
    refine ⟨⟨i, hr, him⟩, fun j hj hjm => ?_⟩
    by_cases hji : j = i
    · subst hji; exact ⟨oi, hi, hy⟩
    · obtain ⟨hjun, oj, hoj, hall⟩ := mem_ready.1 hj
      have hnot : ∀ e ∈ oj.after, Region.binds md e = true → e.on ≠ i := fun e he hb heq => by
        have h1 := hall e he hb
        have h0 := (mem_ready.1 hr).1
        rw [heq] at h1
        rcases Nat.lt_or_ge i listed.size with h' | h'
        · simp [h'] at h0 h1; rw [h0] at h1; cases h1
        · simp [Array.getElem?_eq_none h'] at h1
      have hap := hfree j oj hoj hji hjun hnot
      have hfree' : ∀ k ok, ops[k]? = some ok → k ≠ i → (listed.setIfInBounds j true).getD k true = false →
          (∀ e ∈ ok.after, Region.binds md e = true → e.on ≠ i) → oi.apart ops ok = true ∧ k ∉ dep i ∧ i ∉ dep k := fun k ok hk hki hun hno => by
        refine hfree k ok hk hki ?_ hno
        by_cases hjk : j = k
        · subst hjk; exact hjun
        · rw [getD_set_ne true hjk] at hun; exact hun
      refine ⟨oj, hoj, ?_⟩
      have hsw := StepM.swap hG hji hap.2.1 hap.2.2 hap.1 (fun cs b => hsel i oi cs b hi) (fun cs b => hsel j oj cs b hoj)
        (K := detM P md ops G sp dep Fr Fin n ((listed.setIfInBounds i true).setIfInBounds j true)) (hy.mono fun a' Fs' h => by
          obtain ⟨oj', hoj', h⟩ := h.2 j (ready_mono hj hji) hjm
          obtain rfl := Option.some.inj (hoj'.symm.trans hoj)
          exact h)
      refine hsw.mono fun a' Fs' h => ?_
      rw [Array.setIfInBounds_comm _ _ (fun e => hji e.symm)] at h
      exact ih (listed.setIfInBounds j true) a' Fs' hfree' (ready_mono hr (Ne.symm hji)) h
/-- The facts hold, each of an interval of its own. -/
def Inv (base : Nat) (Fs : Nat → Option Fact) (w : World) : Prop :=
  base ≤ w.heap.size ∧ ∃ I : Nat → Nat × Nat, (∀ i f, Fs i = some f → base ≤ (I i).1 ∧ (I i).1 ≤ (I i).2 ∧ (I i).2 ≤ w.heap.size ∧ f (I i).1 (I i).2 w) ∧
    (∀ i j fi fj, i ≠ j → Fs i = some fi → Fs j = some fj → (I i).2 ≤ (I j).1 ∨ (I j).2 ≤ (I i).1)
/-- What must have come ahead of an operation: its edges, and those of what they lead to, gathered downward. -/
def edgesOf (md : Region.Mode) (ops : Array Oper) (i : Nat) : List Nat := match ops[i]? with | some o => (o.after.toList.filter fun e => Region.binds md e).map (·.on) | none => []
def mark (md : Region.Mode) (ops : Array Oper) : List Nat → List Nat → List Nat
  | [], ms => ms
  | t :: r, ms => if ms.contains t then mark md ops r (edgesOf md ops t ++ ms) else mark md ops r ms
def Closed (md : Region.Mode) (ops : Array Oper) (listed : Array Bool) : Prop := ∀ k, listed.getD k false = true → ∀ x ∈ edgesOf md ops k, listed.getD x false = true
theorem mark_listed {listed : Array Bool} (hc : Closed md ops listed) : ∀ (ts ms : List Nat), (∀ x ∈ ms, listed.getD x false = true) → ∀ x ∈ mark md ops ts ms, listed.getD x false = true
  | [], ms, h, x, hx => h x hx
  | t :: r, ms, h, x, hx => by
    unfold mark at hx
    split at hx
    · rename_i ht
      exact mark_listed hc r _ (fun y hy => by
        rcases List.mem_append.1 hy with hy | hy
        · exact hc t (h t (by simpa using ht)) y hy
        · exact h y hy) x hx
    · exact mark_listed hc r ms h x hx
theorem mem_edgesOf {i x : Nat} {o : Oper} (ho : ops[i]? = some o) : x ∈ edgesOf md ops i ↔ ∃ e ∈ o.after, Region.binds md e = true ∧ e.on = x := by
  unfold edgesOf
  rw [ho]
  simp only [List.mem_map, List.mem_filter, Array.mem_toList_iff]
  constructor
  · rintro ⟨e, ⟨h1, h2⟩, h3⟩; exact ⟨e, h1, h2, h3⟩
  · rintro ⟨e, h1, h2, h3⟩; exact ⟨e, ⟨h1, h2⟩, h3⟩
theorem Closed.set {listed : Array Bool} (hc : Closed md ops listed) {i : Nat} (hi : i ∈ Region.ready md ops listed) : Closed md ops (listed.setIfInBounds i true) := by
  intro k hk x hx
  by_cases e : i = k
  · subst e
    obtain ⟨_, o, ho, hall⟩ := mem_ready.1 hi
    obtain ⟨e, he, hb, rfl⟩ := (mem_edgesOf ho).1 hx
    exact getD_set_true (hall e he hb)
  · rw [getD_set_ne false e] at hk
    exact getD_set_true (hc k hk x hx)
theorem detM_sound (ins : List Nat) (base k : Nat) (hmono : ∀ i s, sp i = some s → ∀ args v, (s.fa args v).Mono) (htail : ∀ i, i < ops.size → ¬ Fr i = true → i ∈ ins ∨ ∀ j, Fr j = true → j ∈ mark md ops (List.range i).reverse (edgesOf md ops i)) :
    ∀ (n : Nat) (listed : Array Bool) (a : Act) (Fs : Nat → Option Fact), (∀ i ∈ ins, listed.getD i false = true) → (∀ i f, Fs i = some f → Fact.Mono f) → (∀ i f, Fs i = some f → listed.getD i false = true) → Closed md ops listed →
      detM P md ops G sp dep Fr (fun listed a Fs => ∀ w, G w → Inv base Fs w → wpAny P md ops Q k listed a w) n listed a Fs → ∀ w, G w → Inv base Fs w → wpAny P md ops Q (n + k) listed a w
  | 0, listed, a, Fs, _, _, _, _, h, w, hGw, hI => by rw [Nat.zero_add]; exact h.2 w hGw hI
  | n + 1, listed, a, Fs, hins, hFm, hFl, hcl, h, w, hGw, hI => by
    obtain ⟨⟨i0, hi0, hi0m⟩, h⟩ := h
    rw [Nat.add_right_comm]
    refine ⟨fun hr => (by rw [hr] at hi0; cases hi0), fun i hi => ?_⟩
    by_cases him : Fr i = true
    · obtain ⟨o, ho, hst⟩ := h i hi him
      have hil : listed.getD i true = false := (mem_ready.1 hi).1
      have hil2 : i < listed.size := by
        rcases Nat.lt_or_ge i listed.size with h' | h'
        · exact h'
        · simp [Array.getElem?_eq_none h'] at hil
      have hFi : Fs i = none := by
        cases hf : Fs i with
        | none => rfl
        | some f =>
          have := hFl i f hf
          simp [hil2] at hil this
          rw [hil] at this; cases this
      have hFl' : ∀ k f, Fs k = some f → (listed.setIfInBounds i true).getD k false = true := fun k f hk => getD_set_true (hFl k f hk)
      unfold Go.wpOp
      simp only [ho]
      rcases hst with ⟨hw, hst⟩ | ⟨hw, hst⟩
      · simp only [hw, Bool.false_eq_true, if_false]
        exact detM_sound ins base k hmono htail n _ _ Fs (fun k hk => getD_set_true (hins k hk)) hFm hFl' (hcl.set hi) hst w hGw hI
      · simp only [hw, if_true]
        refine .inl ?_
        unfold Oper.wp
        cases hs : sp i with
        | none =>
          rw [hs] at hst
          obtain ⟨v, hv, hst⟩ := hst
          rw [hv w hGw]
          exact detM_sound ins base k hmono htail n _ _ Fs (fun k hk => getD_set_true (hins k hk)) hFm hFl' (hcl.set hi) hst w hGw hI
        | some s =>
          rw [hs] at hst
          obtain ⟨_, hrun, hst⟩ := hst
          have hr := hrun w hGw (fun d _ f hf => by obtain ⟨_, I, hI1, _⟩ := hI; exact ⟨_, _, (hI1 d f hf).2.2.2⟩)
          have next : ∀ v w', s.pv (opArgs a o) v → G w' → Below w.heap.size w w' → s.fa (opArgs a o) v w.heap.size w'.heap.size w' →
              wpAny P md ops Q (n + k) (listed.setIfInBounds i true) (a.put o.dst v) w' := by
            intro v w' hpv hG' hB hfa
            refine detM_sound ins base k hmono htail n _ _ _ (fun k hk => getD_set_true (hins k hk)) ?_ ?_ (hcl.set hi) (hst v hpv) w' hG' ?_
            · intro j f hj
              unfold upd at hj
              split at hj
              · obtain rfl := Option.some.inj hj; exact hmono i s hs _ _
              · exact hFm j f hj
            · intro j f hj
              unfold upd at hj
              split at hj
              · rename_i e; subst e; simp [hil2]
              · exact hFl' j f hj
            · obtain ⟨hbase, I, hI1, hI2⟩ := hI
              refine ⟨Nat.le_trans hbase hB.size, fun j => if j = i then (w.heap.size, w'.heap.size) else I j, ?_, ?_⟩
              · intro j f hj
                unfold upd at hj
                split at hj
                · rename_i e; subst e
                  obtain rfl := Option.some.inj hj
                  simp only [if_true]
                  exact ⟨hbase, hB.size, Nat.le_refl _, hfa⟩
                · rename_i e
                  simp only [e, if_false]
                  obtain ⟨q1, q2, q3, q4⟩ := hI1 j f hj
                  exact ⟨q1, q2, Nat.le_trans q3 hB.size, hFm j f hj _ _ _ _ q4 q3 hB⟩
              · intro x y fx fy hxy hx hy
                unfold upd at hx hy
                by_cases ex : x = i
                · by_cases ey : y = i
                  · exact absurd (ex.trans ey.symm) hxy
                  · simp only [ex, ey, if_true, if_false] at hx hy ⊢
                    exact .inr (hI1 y fy hy).2.2.1
                · by_cases ey : y = i
                  · simp only [ex, ey, if_true, if_false] at hx hy ⊢
                    exact .inl (hI1 x fx hx).2.2.1
                  · simp only [ex, ey, if_false] at hx hy ⊢
                    exact hI2 x y fx fy hxy hx hy
          generalize (execOp a.eval o).run P w = r at hr
          cases r with
          | ok nx w1 =>
            cases nx <;> simp only [RunM, Oper.upon] at hr ⊢
            case value v => exact next v w1 hr.1 hr.2.1 hr.2.2.1 hr.2.2.2
            case enter f as =>
              refine Calls.mono hr fun e w2 he => ?_
              obtain ⟨v, rfl, h1, h2, h3, h4⟩ := he
              exact next v w2 h1 h2 h3 h4
          | halt x w1 => simp [RunM] at hr
    · exfalso
      obtain ⟨_, o, ho, hall⟩ := mem_ready.1 hi
      have hil0 := (mem_ready.1 hi).1
      rcases htail i (Array.getElem?_eq_some_iff.1 ho).1 him with hin | hm
      · have := hins i hin
        rcases Nat.lt_or_ge i listed.size with h' | h'
        · simp [h'] at this hil0; rw [this] at hil0; cases hil0
        · simp [Array.getElem?_eq_none h'] at this
      have hm := hm i0 hi0m
      have h1 := mark_listed hcl _ _ (fun x hx => by
        obtain ⟨e, he, hb, rfl⟩ := (mem_edgesOf ho).1 hx
        exact hall e he hb) i0 hm
      have h0 := (mem_ready.1 hi0).1
      rcases Nat.lt_or_ge i0 listed.size with h' | h'
      · simp [h'] at h0 h1; rw [h0] at h1; cases h1
      · simp [Array.getElem?_eq_none h'] at h1
/-- The walk in a given order. -/
def monoList (P : Program) (ops : Array Oper) (G : World → Prop) (sp : Nat → Option MSpec) (dep : Nat → List Nat) (F : Act → (Nat → Option Fact) → Prop) : List Nat → Act → (Nat → Option Fact) → Prop
  | [], a, Fs => F a Fs
  | i :: rest, a, Fs => ∃ o, ops[i]? = some o ∧ StepM P ops G sp dep i o a Fs (monoList P ops G sp dep F rest)
/-- The same, with the operations written out. -/
def monoL (P : Program) (ops : Array Oper) (G : World → Prop) (sp : Nat → Option MSpec) (dep : Nat → List Nat) (F : Act → (Nat → Option Fact) → Prop) : List (Nat × Oper) → Act → (Nat → Option Fact) → Prop
  | [], a, Fs => F a Fs
  | (i, o) :: rest, a, Fs => StepM P ops G sp dep i o a Fs (monoL P ops G sp dep F rest)
theorem monoL_list {F : Act → (Nat → Option Fact) → Prop} : ∀ (l : List (Nat × Oper)), (∀ p ∈ l, ops[p.1]? = some p.2) → ∀ a Fs, monoL P ops G sp dep F l a Fs → monoList P ops G sp dep F (l.map (·.1)) a Fs
  | [], _, _, _, h => h
  | (i, o) :: rest, hl, a, Fs, h => ⟨o, hl (i, o) (by simp), StepM.mono h fun a' Fs' => monoL_list rest (fun p hp => hl p (by simp [hp])) a' Fs'⟩
/-- What is asked of the text: the first m operations may come in the text's order, and behind them the rest can come in that order alone. -/
def depFree (md : Region.Mode) (ops : Array Oper) (dep : Nat → List Nat) (listed : Array Bool) (i : Nat) : Bool :=
  (List.range ops.size).all fun j => j == i || listed.getD j true || (edgesOf md ops j).contains i || (!(dep i).contains j && !(dep j).contains i)
theorem depFree_spec {md : Region.Mode} {ops : Array Oper} {dep : Nat → List Nat} {listed : Array Bool} {i : Nat} (h : depFree md ops dep listed i = true) {j : Nat} {oj : Oper} (hj : ops[j]? = some oj) (hji : j ≠ i) (hl : listed.getD j true = false)
    (he : ∀ e ∈ oj.after, Region.binds md e = true → e.on ≠ i) : j ∉ dep i ∧ i ∉ dep j := by
  have h := List.all_eq_true.1 h j (List.mem_range.2 (Array.getElem?_eq_some_iff.1 hj).1)
  simp only [Bool.or_eq_true, beq_iff_eq, hl, List.contains_iff_mem, Bool.and_eq_true, Bool.not_eq_true'] at h
  rcases h with ((h | h) | h) | h
  · exact absurd h hji
  · cases h
  · obtain ⟨e, h1, h2, h3⟩ := (mem_edgesOf hj).1 h
    exact absurd h3 (he e h1 h2)
  · exact ⟨by simpa using h.1, by simpa using h.2⟩
def frontOk (md : Region.Mode) (ops : Array Oper) (dep : Nat → List Nat) : List Nat → Array Bool → Bool
  | [], _ => true
  | i :: r, listed => Region.free md ops listed i && depFree md ops dep listed i && (Region.ready md ops listed).contains i && frontOk md ops dep r (listed.setIfInBounds i true)
def setAll : List Nat → Array Bool → Array Bool
  | [], listed => listed
  | i :: r, listed => setAll r (listed.setIfInBounds i true)
theorem detM_list (hG : ∃ w, G w) (hsel : Region.noSelect ops = true) (F : Act → (Nat → Option Fact) → Prop) : ∀ (l : List Nat) (listed : Array Bool) (a : Act) (Fs : Nat → Option Fact), (∀ i ∈ l, Fr i = true) →
    (∀ j ∈ Region.ready md ops (setAll l listed), ¬ Fr j = true) →
    frontOk md ops dep l listed = true → monoList P ops G sp dep F l a Fs →
      detM P md ops G sp dep Fr (fun li a Fs => li = setAll l listed ∧ F a Fs) l.length listed a Fs
  | [], listed, a, Fs, _, hno, _, h => ⟨by simpa [setAll] using hno, by simp [setAll], h⟩
  | i :: l, listed, a, Fs, hl, hno, ho, h => by
    simp only [frontOk, Bool.and_eq_true] at ho
    obtain ⟨⟨⟨hf, hdf⟩, hr⟩, ho⟩ := ho
    simp only [setAll] at hno ⊢
    obtain ⟨o, h0, hst⟩ := h
    refine detM_first hG h0 (hl i (by simp)) (Region.noSelect_spec hsel) l.length listed a Fs (fun j oj hj hji hl he => ⟨Region.free_spec h0 hf j oj hj hji hl he, depFree_spec hdf hj hji hl he⟩) (by simpa using hr) ?_
    refine StepM.mono hst fun a' Fs' h' => ?_
    exact detM_list hG hsel F l _ a' Fs' (fun k hk => hl k (by simp [hk])) hno ho h'
def tailOrder (md : Region.Mode) (ops : Array Oper) : List Nat → Array Bool → Bool
  | [], listed => Region.ready md ops listed == []
  | i :: r, listed => Region.ready md ops listed == [i] && tailOrder md ops r (listed.setIfInBounds i true)
theorem wpAny_tail : ∀ (tl : List Nat) (l : List Oper) (listed : Array Bool) (a : Act) (w : World), tl.map (fun i => ops[i]?) = l.map some → tailOrder md ops tl listed = true → wpList P ops Q l a w → wpAny P md ops Q tl.length listed a w
  | [], [], listed, a, w, _, ht, h => by
    simp only [tailOrder, beq_iff_eq] at ht
    exact ⟨ht, h⟩
  | [], _ :: _, _, _, _, hl, _, _ => by simp at hl
  | _ :: _, [], _, _, _, hl, _, _ => by simp at hl
  | i :: tl, o :: l, listed, a, w, hl, ht, h => by
    simp only [List.map_cons, List.cons.injEq] at hl
    obtain ⟨h0, hl⟩ := hl
    simp only [tailOrder, Bool.and_eq_true, beq_iff_eq] at ht
    refine ⟨fun hr => (by rw [ht.1] at hr; cases hr), fun j hj => ?_⟩
    rw [ht.1] at hj
    simp only [List.mem_singleton] at hj
    subst hj
    have ih := fun a w => wpAny_tail tl l (listed.setIfInBounds j true) a w hl ht.2
    unfold Go.wpOp
    simp only [h0]
    unfold wpList at h
    split
    · rename_i hw
      rw [if_pos hw] at h
      exact h.imp (Oper.wp_mono fun a w => ih a w) id
    · rename_i hw
      rw [if_neg hw] at h
      exact ih _ _ h
end
/-- The operations of these numbers. -/
def pick (l : List Oper) : List Nat → List Oper
  | [] => []
  | i :: r => l.getD i default :: pick l r
/-- All that is asked of a region's own text: the operations ahead of its stores, in an order that may be picked; the rest, in the one order in which it can come. -/
def monoOk (dep : Nat → List Nat) (ord tl : List Nat) (l : List Oper) : Bool :=
  Region.noSelect l.toArray && decide (ord.length + tl.length = l.length) && tl.all (fun i => decide (i < l.length)) && ord.all (fun i => decide (i < l.length)) && frontOk .any l.toArray dep ord (Array.replicate l.length false) &&
  (Region.ready .any l.toArray (setAll ord (Array.replicate l.length false))).all (fun j => !ord.contains j) &&
  tailOrder .any l.toArray tl (setAll ord (Array.replicate l.length false)) &&
  (List.range l.length).all fun i => ord.contains i || ord.all fun j => (mark .any l.toArray (List.range i).reverse (edgesOf .any l.toArray i)).contains j
theorem pick_spec (l : List Oper) : ∀ tl : List Nat, (∀ i ∈ tl, i < l.length) → tl.map (fun i => l.toArray[i]?) = (pick l tl).map some
  | [], _ => rfl
  | i :: tl, h => by
    have hi := h i (by simp)
    simp only [List.map_cons, pick, pick_spec l tl (fun k hk => h k (by simp [hk])), List.cons.injEq, and_true]
    simp [List.getD_eq_getElem?_getD, List.getElem?_eq_getElem hi]
theorem zip_pick (l : List Oper) : ∀ ord : List Nat, (∀ i ∈ ord, i < l.length) → (ord.zip (pick l ord)).map (·.1) = ord ∧ ∀ p ∈ ord.zip (pick l ord), l.toArray[p.1]? = some p.2
  | [], _ => ⟨rfl, by simp⟩
  | i :: ord, h => by
    obtain ⟨h1, h2⟩ := zip_pick l ord fun k hk => h k (by simp [hk])
    have hi := h i (by simp)
    simp only [pick, List.zip_cons_cons, List.map_cons, h1, true_and]
    intro p hp
    rcases List.mem_cons.1 hp with rfl | hp
    · simp [List.getD_eq_getElem?_getD, List.getElem?_eq_getElem hi]
    · exact h2 p hp
theorem wp_region_mono {P : Program} {id : Nat} {l : List Oper} {Q : Exit → Act → World → Prop} {a : Act} {w : World} (ord tl : List Nat) (G : World → Prop) (sp : Nat → Option MSpec) (dep : Nat → List Nat) (hm : P.follows .mixedOrders = true)
    (hok : monoOk dep ord tl l = true) (hG : G w.drew) (hmono : ∀ i s, sp i = some s → ∀ args v, (s.fa args v).Mono)
    (h : monoL P l.toArray G sp dep (fun a Fs => ∀ w', G w' → Inv w.heap.size Fs w' → wpList P l.toArray Q (pick l tl) a w') (ord.zip (pick l ord)) a (fun _ => none)) : (Code.region id l.toArray true).wp P Q a w := by
  simp only [monoOk, Bool.and_eq_true, decide_eq_true_eq, List.all_eq_true, Bool.or_eq_true, List.mem_range, List.contains_iff_mem, Bool.not_eq_true'] at hok
  obtain ⟨⟨⟨⟨⟨⟨⟨hsel, hlen⟩, htl⟩, hord⟩, hfront⟩, hready⟩, htail⟩, hedge⟩ := hok
  have hzip := zip_pick l ord hord
  have h := monoL_list _ hzip.2 _ _ h
  rw [hzip.1] at h
  have hd := detM_list (md := .any) (P := P) (G := G) (sp := sp) (dep := dep) (Fr := fun j => ord.contains j) (ops := l.toArray) ⟨_, hG⟩ hsel _ ord (Array.replicate l.length false) a (fun _ => none)
    (fun i hi => by simpa using hi) (fun j hj hc => by have := hready j hj; rw [hc] at this; cases this) hfront h
  have hfin : ∀ (n : Nat) (listed : Array Bool) (a : Act) (Fs : Nat → Option Fact), detM P .any l.toArray G sp dep (fun j => ord.contains j) (fun li a Fs => li = setAll ord (Array.replicate l.length false) ∧ ∀ w', G w' → Inv w.heap.size Fs w' → wpList P l.toArray Q (pick l tl) a w') n listed a Fs →
      detM P .any l.toArray G sp dep (fun j => ord.contains j) (fun li a Fs => ∀ w', G w' → Inv w.heap.size Fs w' → wpAny P .any l.toArray Q tl.length li a w') n listed a Fs := by
    intro n
    induction n with
    | zero =>
      intro listed a Fs h
      refine ⟨h.1, fun w' hG' hI => ?_⟩
      obtain ⟨_, rfl, h2⟩ := h
      exact wpAny_tail (P := P) (md := .any) (Q := Q) (ops := l.toArray) tl (pick l tl) _ a w' (pick_spec l tl htl) htail (h2 w' hG' hI)
    | succ n ih =>
      intro listed a Fs h
      exact ⟨h.1, fun i hi him => by obtain ⟨o, ho, hs⟩ := h.2 i hi him; exact ⟨o, ho, hs.mono fun a' Fs' h' => ih _ a' Fs' h'⟩⟩
  have hs := detM_sound (P := P) (Q := Q) (md := .any) [] w.heap.size tl.length hmono (fun i hi hmi => .inr fun j hj => by
    rcases hedge i (by simpa using hi) with h1 | h1
    · exact absurd (by simpa using h1) hmi
    · exact h1 j (by simpa using hj)) ord.length (Array.replicate l.length false) a (fun _ => none) (fun _ h => by cases h) (fun _ _ h => by cases h) (fun _ _ h => by cases h)
    (fun k hk => by simp [Array.getElem?_replicate] at hk; split at hk <;> simp at hk) (hfin _ _ _ _ hd) w.drew hG
    ⟨Nat.le_refl _, fun _ => (0, 0), ⟨(fun _ _ h => by cases h), (fun _ _ _ _ _ h => by cases h)⟩⟩
  refine wp_region_any hm ?_
  have e : ord.length + tl.length = l.toArray.size := by simpa using hlen
  rw [e] at hs
  simpa using hs
/-! The steps. -/
section
variable {P : Program} {ops : Array Oper} {G : World → Prop} {sp : Nat → Option MSpec} {dep : Nat → List Nat} {F : Act → (Nat → Option Fact) → Prop} {o : Oper} {rest : List (Nat × Oper)} {a : Act} {i : Nat} {Fs : Nat → Option Fact}
theorem mono_nil (h : F a Fs) : monoL P ops G sp dep F [] a Fs := h
theorem mono_skip (hw : Region.wanted o (yielded ops a.tmps) = false) (k : monoL P ops G sp dep F rest (a.put o.dst undef) Fs) : monoL P ops G sp dep F ((i, o) :: rest) a Fs := .inl ⟨hw, k⟩
theorem mono_pure {v : Value} (hw : Region.wanted o (yielded ops a.tmps) = true) (hs : sp i = none) (h : ∀ w, G w → (execOp a.eval o).run P w = .ok (.value v) w)
    (k : monoL P ops G sp dep F rest (a.put o.dst v) Fs) : monoL P ops G sp dep F ((i, o) :: rest) a Fs := .inr ⟨hw, by rw [hs]; exact ⟨v, h, k⟩⟩
theorem mono_call {f : FuncId} {args : Array Value} (s : MSpec) (hw : Region.wanted o (yielded ops a.tmps) = true) (hs : sp i = some s) (h : ∀ w, G w → (execOp a.eval o).run P w = .ok (.enter f args) w)
    (he : ∃ v, s.pv (opArgs a o) v) (hc : ∀ w, G w → Has Fs (dep i) w → Calls P f args w fun e w' => ∃ v, e = .returned v ∧ s.pv (opArgs a o) v ∧ G w' ∧ Below w.heap.size w w' ∧ s.fa (opArgs a o) v w.heap.size w'.heap.size w')
    (k : ∀ v, s.pv (opArgs a o) v → monoL P ops G sp dep F rest (a.put o.dst v) (upd Fs i (s.fa (opArgs a o) v))) : monoL P ops G sp dep F ((i, o) :: rest) a Fs :=
  .inr ⟨hw, by rw [hs]; exact ⟨he, fun w hG hH => by rw [h w hG]; exact hc w hG hH, k⟩⟩
theorem mono_make (s : MSpec) (hw : Region.wanted o (yielded ops a.tmps) = true) (hs : sp i = some s)
    (he : ∃ v, s.pv (opArgs a o) v) (h : ∀ w, G w → Has Fs (dep i) w → ∃ v w', (execOp a.eval o).run P w = .ok (.value v) w' ∧ s.pv (opArgs a o) v ∧ G w' ∧ Below w.heap.size w w' ∧ s.fa (opArgs a o) v w.heap.size w'.heap.size w')
    (k : ∀ v, s.pv (opArgs a o) v → monoL P ops G sp dep F rest (a.put o.dst v) (upd Fs i (s.fa (opArgs a o) v))) : monoL P ops G sp dep F ((i, o) :: rest) a Fs :=
  .inr ⟨hw, by rw [hs]; exact ⟨he, fun w hG hH => by obtain ⟨v, w', hr, h1⟩ := h w hG hH; rw [hr]; exact h1, k⟩⟩
end
/-! The common kinds. -/
def fNew (cs : Array Value) (t : TypeId) (v : Value) : Fact := fun lo hi w => ∃ g, v = .pointer (some ⟨g, 0, none⟩) ∧ lo ≤ g ∧ g < hi ∧ Blk w g cs t
def fSlice (n : Nat) (cs : Array Value) (t : TypeId) (v : Value) : Fact := fun lo hi w => ∃ g, v = .slice (some ⟨g, 0, none⟩) n n ∧ lo ≤ g ∧ g < hi ∧ Blk w g cs t
def fTrue : Fact := fun _ _ _ => True
/-- A new block of these cells. -/
def sNew (cs : Array Value) (t : TypeId) : MSpec := ⟨fun _ v => ∃ g, v = .pointer (some ⟨g, 0, none⟩), fun _ v => fNew cs t v⟩
/-- One value, whatever was made for it. -/
def sFix (v0 : Value) : MSpec := ⟨fun _ v => v = v0, fun _ _ => fTrue⟩
/-- A value of a known shape, with a fact. -/
def sRel (shape : Value → Prop) (f : Value → Fact) : MSpec := ⟨fun _ v => shape v, fun _ v => f v⟩
/-- A new slice of n elements over a new block of these cells. -/
def sSlice (n : Nat) (cs : Array Value) (t : TypeId) : MSpec := ⟨fun _ v => ∃ g, v = .slice (some ⟨g, 0, none⟩) n n, fun _ v => fSlice n cs t v⟩
theorem sSlice_mono (n : Nat) (cs : Array Value) (t : TypeId) (args : List Value) (v : Value) : ((sSlice n cs t).fa args v).Mono := by
  intro lo hi w w' h hs hB
  obtain ⟨g, h1, h2, h3, h4⟩ := h
  exact ⟨g, h1, h2, h3, h4.below hB (by omega)⟩
theorem sNew_mono (cs : Array Value) (t : TypeId) (args : List Value) (v : Value) : ((sNew cs t).fa args v).Mono := by
  intro lo hi w w' h hs hB
  obtain ⟨g, h1, h2, h3, h4⟩ := h
  exact ⟨g, h1, h2, h3, h4.below hB (by omega)⟩
theorem sFix_mono (v0 : Value) (args : List Value) (v : Value) : ((sFix v0).fa args v).Mono := fun _ _ _ _ _ _ _ => trivial
section
variable {P : Program} {ops : Array Oper} {G : World → Prop} {sp : Nat → Option MSpec} {dep : Nat → List Nat} {F : Act → (Nat → Option Fact) → Prop} {o : Oper} {rest : List (Nat × Oper)} {a : Act} {i : Nat} {Fs : Nat → Option Fact}
theorem mono_alloc (cs : Array Value) (e : TypeId) (hw : Region.wanted o (yielded ops a.tmps) = true) (hs : sp i = some (sNew cs e)) (hGm : ∀ W W', G W → Below W.heap.size W W' → G W')
    (h : ∀ w, (execOp a.eval o).run P w = .ok (.value (.pointer (some ⟨w.heap.size, 0, none⟩))) (w.alloc (.cells cs e)))
    (k : ∀ g, monoL P ops G sp dep F rest (a.put o.dst (.pointer (some ⟨g, 0, none⟩))) (upd Fs i (fNew cs e (.pointer (some ⟨g, 0, none⟩))))) : monoL P ops G sp dep F ((i, o) :: rest) a Fs :=
  mono_make (sNew cs e) hw hs ⟨_, 0, rfl⟩ (fun w hG _ => ⟨_, _, h w, ⟨_, rfl⟩, hGm _ _ hG ((Below.refl _ _).alloc (Nat.le_refl _) _), (Below.refl _ _).alloc (Nat.le_refl _) _, ⟨_, rfl, Nat.le_refl _, by simp, Blk.new _ _ _⟩⟩)
    (fun v hv => by obtain ⟨g, rfl⟩ := hv; exact k g)
theorem mono_slice (n : Nat) (cs : Array Value) (e : TypeId) (hw : Region.wanted o (yielded ops a.tmps) = true) (hs : sp i = some (sSlice n cs e)) (hGm : ∀ W W', G W → Below W.heap.size W W' → G W')
    (h : ∀ w, (execOp a.eval o).run P w = .ok (.value (.slice (some ⟨w.heap.size, 0, none⟩) n n)) (w.alloc (.cells cs e)))
    (k : ∀ g, monoL P ops G sp dep F rest (a.put o.dst (.slice (some ⟨g, 0, none⟩) n n)) (upd Fs i (fSlice n cs e (.slice (some ⟨g, 0, none⟩) n n)))) : monoL P ops G sp dep F ((i, o) :: rest) a Fs :=
  mono_make (sSlice n cs e) hw hs ⟨_, 0, rfl⟩ (fun w hG _ => ⟨_, _, h w, ⟨_, rfl⟩, hGm _ _ hG ((Below.refl _ _).alloc (Nat.le_refl _) _), (Below.refl _ _).alloc (Nat.le_refl _) _, ⟨_, rfl, Nat.le_refl _, by simp, Blk.new _ _ _⟩⟩)
    (fun v hv => by obtain ⟨g, rfl⟩ := hv; exact k g)
theorem mono_fix {f : FuncId} {args : Array Value} (v0 : Value) (hw : Region.wanted o (yielded ops a.tmps) = true) (hs : sp i = some (sFix v0)) (hGm : ∀ W W', G W → Below W.heap.size W W' → G W')
    (h : ∀ w, G w → (execOp a.eval o).run P w = .ok (.enter f args) w) (hc : ∀ w, G w → Has Fs (dep i) w → Calls P f args w fun e w' => e = .returned v0 ∧ Below w.heap.size w w')
    (k : monoL P ops G sp dep F rest (a.put o.dst v0) (upd Fs i fTrue)) : monoL P ops G sp dep F ((i, o) :: rest) a Fs :=
  mono_call (sFix v0) hw hs h ⟨v0, rfl⟩ (fun w hG hH => (hc w hG hH).mono fun e w' hh => ⟨v0, hh.1, rfl, hGm _ _ hG hh.2, hh.2, trivial⟩) (fun v hv => by obtain rfl : v = v0 := hv; exact k)
theorem mono_rel {f : FuncId} {args : Array Value} (shape : Value → Prop) (fc : Value → Fact) (hw : Region.wanted o (yielded ops a.tmps) = true) (hs : sp i = some (sRel shape fc)) (hGm : ∀ W W', G W → Below W.heap.size W W' → G W')
    (h : ∀ w, G w → (execOp a.eval o).run P w = .ok (.enter f args) w) (he : ∃ v, shape v) (hc : ∀ w, G w → Has Fs (dep i) w → Calls P f args w fun e w' => ∃ v, e = .returned v ∧ shape v ∧ Below w.heap.size w w' ∧ fc v w.heap.size w'.heap.size w')
    (k : ∀ v, shape v → monoL P ops G sp dep F rest (a.put o.dst v) (upd Fs i (fc v))) : monoL P ops G sp dep F ((i, o) :: rest) a Fs :=
  mono_call (sRel shape fc) hw hs h he (fun w hG hH => (hc w hG hH).mono fun e w' hh => by obtain ⟨v, h1, h2, h3, h4⟩ := hh; exact ⟨v, h1, h2, hGm _ _ hG h3, h3, h4⟩) (fun v hv => k v hv)
end
end Go.Proofs.Ytgmhhocpdfdplaa
/- In a region that draws its order, what only moves a value may be done first, at once. Over any program. -/
namespace Go.Proofs.Ytgmhhocpdfdplaa
open Go.RowKit
/-- No way out but the normal one. -/
def onlyN (Q : Exit → Act → World → Prop) : Exit → Act → World → Prop := fun e a w => e = .normal ∧ Q .normal a w
theorem onlyN_letsOut {Q : Exit → Act → World → Prop} (h : LetsOut (onlyN Q)) : False := by
  obtain ⟨a, w, h, _⟩ := h; cases h
theorem onlyN_intro {Q : Exit → Act → World → Prop} {a : Act} {w : World} (h : Q .normal a w) : onlyN Q .normal a w := ⟨rfl, h⟩
section
variable {P : Program} {ops : Array Oper} {md : Region.Mode} {Q : Exit → Act → World → Prop}
theorem upon_trans {Q' : Exit → Act → World → Prop} {o : Oper} {a : Act} {d : Option Tmp} {v : Value} {K K' : Act → World → Prop} {r : Result Next}
    (hK : ∀ ds u w', K ((({ a with defers := ds } : Act).put d v).put o.dst u) w' → K' (({ a with defers := ds } : Act).put o.dst u) w')
    (h : o.upon P (a.put d v) K (onlyN Q) r) : o.upon P a K' Q' r := by
  have e0 : ∀ ds, ({ a.put d v with defers := ds } : Act) = ({ a with defers := ds } : Act).put d v := fun ds => by cases d <;> rfl
  have e1 : (a.put d v).defers = a.defers := by cases d <;> rfl
  cases r with
  | ok n w' =>
    cases n with
    | value u => exact hK a.defers u w' h
    | skip => exact hK a.defers undef w' h
    | defer dd =>
      refine hK (dd :: a.defers) undef w' ?_
      have h' : K (({ a.put d v with defers := dd :: (a.put d v).defers } : Act).put o.dst undef) w' := h
      rw [e1, e0] at h'
      exact h'
    | enter f as =>
      refine Calls.mono (show Calls P f as w' _ from h) fun e w2 he => ?_
      cases e with
      | returned u => exact hK a.defers u w2 he
      | panicked c => obtain ⟨h, _⟩ := he; cases h
      | outgrown => exact (onlyN_letsOut he).elim
    | row r as => exact Rows.mono (show Rows P r as w' _ from h) fun u w2 he => hK a.defers u w2 he
    | _ => exact h.elim
  | halt x w' =>
    cases x <;> first | exact h.elim | (obtain ⟨h, _⟩ := h; cases h)
theorem wpAny_onlyN : ∀ (n : Nat) (listed : Array Bool) (a : Act) (w : World), wpAny P md ops (onlyN Q) n listed a w → wpAny P md ops Q n listed a w
  | 0, _, _, _, h => ⟨h.1, h.2.2⟩
  | n + 1, listed, a, w, h => by
    refine ⟨fun hr => (h.1 hr).2, fun j hj => ?_⟩
    have hw := h.2 j hj
    unfold Go.wpOp at hw ⊢
    split
    · rename_i hn; simp only [hn] at hw; exact wpAny_onlyN n _ _ _ hw
    · rename_i o ho
      simp only [ho] at hw
      split
      · rename_i hwt
        rw [if_pos hwt] at hw
        rcases hw with hw | ⟨_, hw⟩
        · exact .inl (upon_trans (d := none) (v := undef) (fun ds u w' h => wpAny_onlyN n _ _ _ h) hw)
        · exact (onlyN_letsOut hw).elim
      · rename_i hwt
        rw [if_neg hwt] at hw
        exact wpAny_onlyN n _ _ _ hw
/-- What yields one value in every world, and is free, may be done first. -/
theorem wpAny_inert (hsel : Region.noSelect ops = true) {i : Nat} {oi : Oper} {v : Value} (hi : ops[i]? = some oi) (hg : oi.guard = none) :
    ∀ (n : Nat) (listed : Array Bool) (a : Act) (w : World), (∀ w, (execOp a.eval oi).run P w = .ok (.value v) w) → i ∈ Region.ready md ops listed →
      (∀ j oj, ops[j]? = some oj → j ≠ i → listed.getD j true = false → (∀ e ∈ oj.after, Region.binds md e = true → e.on ≠ i) → oi.apart ops oj = true) →
      wpAny P md ops (onlyN Q) n (listed.setIfInBounds i true) (a.put oi.dst v) w → wpAny P md ops (onlyN Q) (n + 1) listed a w := by
  have sel := Region.noSelect_spec hsel
  intro n
  induction n with
  | zero =>
    intro listed a w hv hr hfree h
    refine ⟨fun e => (by rw [e] at hr; cases hr), fun j hj => ?_⟩
    by_cases hji : j = i
    · subst hji
      unfold Go.wpOp
      simp only [hi, Region.wanted, hg, if_true]
      refine .inl ?_
      unfold Oper.wp
      rw [hv w]
      exact h
    · exact absurd (ready_mono hj hji) (by rw [h.1]; simp)
  | succ n ih =>
    intro listed a w hv hr hfree h
    refine ⟨fun e => (by rw [e] at hr; cases hr), fun j hj => ?_⟩
    by_cases hji : j = i
    · subst hji
      unfold Go.wpOp
      simp only [hi, Region.wanted, hg, if_true]
      refine .inl ?_
      unfold Oper.wp
      rw [hv w]
      exact h
    · obtain ⟨hjun, oj, hoj, hall⟩ := mem_ready.1 hj
      have hnot : ∀ e ∈ oj.after, Region.binds md e = true → e.on ≠ i := fun e he hb heq => by
        have h1 := hall e he hb
        have h0 := (mem_ready.1 hr).1
        rw [heq] at h1
        rcases Nat.lt_or_ge i listed.size with h' | h'
        · simp [h'] at h0 h1; rw [h0] at h1; cases h1
        · simp [Array.getElem?_eq_none h'] at h1
      obtain ⟨p1, p2, p3⟩ := Oper.apart_spec (hfree j oj hoj hji hjun hnot)
      have hw := h.2 j (ready_mono hj hji)
      have hfree' : ∀ k ok, ops[k]? = some ok → k ≠ i → (listed.setIfInBounds j true).getD k true = false →
          (∀ e ∈ ok.after, Region.binds md e = true → e.on ≠ i) → oi.apart ops ok = true := fun k ok hk hki hun hno => by
        refine hfree k ok hk hki ?_ hno
        by_cases hjk : j = k
        · subst hjk; exact hjun
        · rw [getD_set_ne true hjk] at hun; exact hun
      have hr' : i ∈ Region.ready md ops (listed.setIfInBounds j true) := ready_mono hr (Ne.symm hji)
      have step : ∀ ds u w', wpAny P md ops (onlyN Q) n ((listed.setIfInBounds i true).setIfInBounds j true) ((({ a with defers := ds } : Act).put oi.dst v).put oj.dst u) w' →
          wpAny P md ops (onlyN Q) (n + 1) (listed.setIfInBounds j true) (({ a with defers := ds } : Act).put oj.dst u) w' := by
        intro ds u w' hh
        refine ih _ _ _ (fun w => ?_) hr' hfree' ?_
        · rw [execOp_put oi (fun cs b => sel i oi cs b hi) _ _ _ p3]; exact hv w
        · rw [Array.setIfInBounds_comm _ _ (fun e => hji e.symm), Act.put_comm _ v u p2] at hh
          exact hh
      unfold Go.wpOp at hw ⊢
      simp only [hoj] at hw ⊢
      rw [wanted_put oj a oi.dst v p1] at hw
      split
      · rename_i hwt
        rw [if_pos hwt] at hw
        rcases hw with hw | ⟨_, hw⟩
        · refine .inl ?_
          unfold Oper.wp at hw ⊢
          rw [execOp_put oj (fun cs b => sel j oj cs b hoj) a oi.dst v p1] at hw
          exact upon_trans step hw
        · exact (onlyN_letsOut hw).elim
      · rename_i hwt
        rw [if_neg hwt] at hw
        exact step a.defers undef w hw
/-- The walk of what is done first. -/
def insWalk (P : Program) (F : Act → Prop) : List (Nat × Oper) → Act → Prop
  | [], a => F a
  | (_, o) :: r, a => ∃ v, (∀ w, (execOp a.eval o).run P w = .ok (.value v) w) ∧ insWalk P F r (a.put o.dst v)
def insOk (md : Region.Mode) (ops : Array Oper) : List Nat → Array Bool → Bool
  | [], _ => true
  | i :: r, listed => Region.free md ops listed i && (Region.ready md ops listed).contains i && (match ops[i]? with | some o => o.guard == none | none => false) && insOk md ops r (listed.setIfInBounds i true)
theorem wpAny_ins (hsel : Region.noSelect ops = true) {n : Nat} {w : World} : ∀ (l : List (Nat × Oper)) (listed : Array Bool) (a : Act), (∀ p ∈ l, ops[p.1]? = some p.2) → insOk md ops (l.map (·.1)) listed = true →
    insWalk P (fun a => wpAny P md ops (onlyN Q) n (setAll (l.map (·.1)) listed) a w) l a → wpAny P md ops (onlyN Q) (n + l.length) listed a w
  | [], listed, a, _, _, h => h
  | (i, o) :: r, listed, a, hl, hok, h => by
    simp only [List.map_cons, insOk, Bool.and_eq_true] at hok
    obtain ⟨⟨⟨hf, hr⟩, hg⟩, hok⟩ := hok
    have hi : ops[i]? = some o := hl (i, o) (by simp)
    rw [hi] at hg
    obtain ⟨v, hv, h⟩ := h
    have ih := wpAny_ins hsel r (listed.setIfInBounds i true) (a.put o.dst v) (fun p hp => hl p (by simp [hp])) hok h
    exact wpAny_inert hsel hi (by simpa using hg) (n + r.length) listed a w hv (by simpa using hr) (Region.free_spec hi hf) ih
end
def monoOkIn (dep : Nat → List Nat) (ins ord tl : List Nat) (l : List Oper) : Bool :=
  Region.noSelect l.toArray && decide (ins.length + ord.length + tl.length = l.length) && tl.all (fun i => decide (i < l.length)) && ord.all (fun i => decide (i < l.length)) && ins.all (fun i => decide (i < l.length)) &&
  insOk .any l.toArray ins (Array.replicate l.length false) &&
  frontOk .any l.toArray dep ord (setAll ins (Array.replicate l.length false)) &&
  (Region.ready .any l.toArray (setAll ord (setAll ins (Array.replicate l.length false)))).all (fun j => !ord.contains j) &&
  tailOrder .any l.toArray tl (setAll ord (setAll ins (Array.replicate l.length false))) &&
  ((List.range l.length).all fun i => ord.contains i || ins.contains i || ord.all fun j => (mark .any l.toArray (List.range i).reverse (edgesOf .any l.toArray i)).contains j)
theorem setAll_get : ∀ (ins : List Nat) (listed : Array Bool) (k : Nat), listed.getD k false = true → (setAll ins listed).getD k false = true
  | [], _, _, h => h
  | _ :: r, _, k, h => setAll_get r _ k (getD_set_true h)
theorem setAll_in : ∀ (ins : List Nat) (listed : Array Bool), (∀ i ∈ ins, i < listed.size) → ∀ i ∈ ins, (setAll ins listed).getD i false = true
  | j :: r, _, hs, i, hi => by
    rcases List.mem_cons.1 hi with rfl | hi
    · exact setAll_get r _ i (by have := hs i (by simp); simp [this])
    · exact setAll_in r _ (fun k hk => by have := hs k (by simp [hk]); simpa using this) i hi
theorem setAll_closed {md : Region.Mode} {ops : Array Oper} : ∀ (ins : List Nat) (listed : Array Bool), Closed md ops listed → insOk md ops ins listed = true → Closed md ops (setAll ins listed)
  | [], _, h, _ => h
  | i :: r, listed, h, hok => by
    simp only [insOk, Bool.and_eq_true] at hok
    exact setAll_closed r _ (h.set (by simpa using hok.1.1.2)) hok.2
theorem wp_region_in {P : Program} {id : Nat} {l : List Oper} {Q : Exit → Act → World → Prop} {a : Act} {w : World} (ins ord tl : List Nat) (G : World → Prop) (sp : Nat → Option MSpec) (dep : Nat → List Nat) (hm : P.follows .mixedOrders = true)
    (hok : monoOkIn dep ins ord tl l = true) (hG : G w.drew) (hmono : ∀ i s, sp i = some s → ∀ args v, (s.fa args v).Mono)
    (h : insWalk P (fun a => monoL P l.toArray G sp dep (fun a Fs => ∀ w', G w' → Inv w.heap.size Fs w' → wpList P l.toArray (onlyN Q) (pick l tl) a w') (ord.zip (pick l ord)) a (fun _ => none)) (ins.zip (pick l ins)) a) : (Code.region id l.toArray true).wp P Q a w := by
  simp only [monoOkIn, Bool.and_eq_true, decide_eq_true_eq, List.all_eq_true, Bool.or_eq_true, List.mem_range, List.contains_iff_mem, Bool.not_eq_true'] at hok
  obtain ⟨⟨⟨⟨⟨⟨⟨⟨⟨hsel, hlen⟩, htl⟩, hord⟩, hins⟩, hinsOk⟩, hfront⟩, hready⟩, htail⟩, hedge⟩ := hok
  have hzip := zip_pick l ord hord
  have hzipI := zip_pick l ins hins
  have key : ∀ a, monoL P l.toArray G sp dep (fun a Fs => ∀ w', G w' → Inv w.heap.size Fs w' → wpList P l.toArray (onlyN Q) (pick l tl) a w') (ord.zip (pick l ord)) a (fun _ => none) →
      wpAny P .any l.toArray (onlyN Q) (ord.length + tl.length) (setAll ins (Array.replicate l.length false)) a w.drew := by
    intro a h
    have h := monoL_list _ hzip.2 _ _ h
    rw [hzip.1] at h
    have hd := detM_list (md := .any) (P := P) (G := G) (sp := sp) (dep := dep) (Fr := fun j => ord.contains j) (ops := l.toArray) ⟨_, hG⟩ hsel _ ord (setAll ins (Array.replicate l.length false)) a (fun _ => none)
      (fun i hi => by simpa using hi) (fun j hj hc => by have := hready j hj; rw [hc] at this; cases this) hfront h
    have hfin : ∀ (n : Nat) (listed : Array Bool) (a : Act) (Fs : Nat → Option Fact), detM P .any l.toArray G sp dep (fun j => ord.contains j) (fun li a Fs => li = setAll ord (setAll ins (Array.replicate l.length false)) ∧ ∀ w', G w' → Inv w.heap.size Fs w' → wpList P l.toArray (onlyN Q) (pick l tl) a w') n listed a Fs →
        detM P .any l.toArray G sp dep (fun j => ord.contains j) (fun li a Fs => ∀ w', G w' → Inv w.heap.size Fs w' → wpAny P .any l.toArray (onlyN Q) tl.length li a w') n listed a Fs := by
      intro n
      induction n with
      | zero =>
        intro listed a Fs h
        refine ⟨h.1, fun w' hG' hI => ?_⟩
        obtain ⟨_, rfl, h2⟩ := h
        exact wpAny_tail (P := P) (md := .any) (Q := onlyN Q) (ops := l.toArray) tl (pick l tl) _ a w' (pick_spec l tl htl) htail (h2 w' hG' hI)
      | succ n ih =>
        intro listed a Fs h
        exact ⟨h.1, fun i hi him => by obtain ⟨o, ho, hs⟩ := h.2 i hi him; exact ⟨o, ho, hs.mono fun a' Fs' h' => ih _ a' Fs' h'⟩⟩
    refine detM_sound (P := P) (Q := onlyN Q) (md := .any) ins w.heap.size tl.length hmono (fun i hi hmi => ?_) ord.length _ a (fun _ => none) (setAll_in ins _ (fun i hi => by simpa using hins i hi)) (fun _ _ h => by cases h) (fun _ _ h => by cases h)
      (setAll_closed ins _ (fun k hk => by simp [Array.getElem?_replicate] at hk; split at hk <;> simp at hk) hinsOk) (hfin _ _ _ _ hd) w.drew hG
      ⟨Nat.le_refl _, fun _ => (0, 0), ⟨(fun _ _ h => by cases h), (fun _ _ _ _ _ h => by cases h)⟩⟩
    rcases hedge i (by simpa using hi) with (h1 | h1) | h1
    · exact absurd (by simpa using h1) hmi
    · exact .inl h1
    · exact .inr fun j hj => h1 j (by simpa using hj)
  have hlenI : (ins.zip (pick l ins)).length = ins.length := by rw [← List.length_map (f := Prod.fst), hzipI.1]
  have hall : wpAny P .any l.toArray (onlyN Q) ((ord.length + tl.length) + (ins.zip (pick l ins)).length) (Array.replicate l.length false) a w.drew := by
    refine wpAny_ins hsel _ _ a hzipI.2 (by rw [hzipI.1]; exact hinsOk) ?_
    rw [hzipI.1]
    have mono : ∀ (F F' : Act → Prop), (∀ a, F a → F' a) → ∀ (L : List (Nat × Oper)) a, insWalk P F L a → insWalk P F' L a := by
      intro F F' hF L
      induction L with
      | nil => intro a h; exact hF a h
      | cons p L ih => intro a h; obtain ⟨v, h1, h2⟩ := h; exact ⟨v, h1, ih _ h2⟩
    exact mono _ _ key _ a h
  refine wp_region_any hm ?_
  have e : (ord.length + tl.length) + (ins.zip (pick l ins)).length = l.toArray.size := by rw [hlenI]; simp; omega
  rw [e] at hall
  simpa using wpAny_onlyN _ _ _ _ hall
theorem ins_nil {P : Program} {F : Act → Prop} {a : Act} (h : F a) : insWalk P F [] a := h
theorem ins_step {P : Program} {F : Act → Prop} {i : Nat} {o : Oper} {r : List (Nat × Oper)} {a : Act} (v : Value) (h : ∀ w, (execOp a.eval o).run P w = .ok (.value v) w) (k : insWalk P F r (a.put o.dst v)) : insWalk P F ((i, o) :: r) a := ⟨v, h, k⟩
end Go.Proofs.Ytgmhhocpdfdplaa
/- A region that draws its order and holds ONE operation (at i0) that takes the world from a condition S to a condition T, each other one yielding one value in every world that meets S, and the same in every world that meets T: it may be walked in the order of the text. Over any program. -/
namespace Go.Proofs.Ytgmhhocpdfdplaa
open Go.RowKit
def YieldsT (P : Program) (ops : Array Oper) (i0 : Nat) (S T : World → Prop) (i : Nat) (o : Oper) (v : Value) (a : Act) : Prop :=
  (Region.wanted o (yielded ops a.tmps) = true ∧ (i = i0 → ∀ w, S w → RunYields P T v ((execOp a.eval o).run P w)) ∧
    (i ≠ i0 → (∀ w, S w → RunYields P S v ((execOp a.eval o).run P w)) ∧ ∀ w, T w → RunYields P T v ((execOp a.eval o).run P w))) ∨
  (Region.wanted o (yielded ops a.tmps) = false ∧ v = undef ∧ i ≠ i0)
/-- The condition that holds when these have run. -/
def At1 (i0 : Nat) (S T : World → Prop) (listed : Array Bool) (w : World) : Prop := if listed.getD i0 true = true then T w else S w
section
variable {P : Program} {ops : Array Oper} {md : Region.Mode} {i0 : Nat} {S T : World → Prop} {Q : Exit → Act → World → Prop} {F : Array Bool → Act → Prop}
theorem YieldsT.of_same {i : Nat} {o : Oper} {v : Value} {a a' : Act} (hy : YieldsT P ops i0 S T i o v a) (he : execOp a'.eval o = execOp a.eval o)
    (hw : Region.wanted o (yielded ops a'.tmps) = Region.wanted o (yielded ops a.tmps)) : YieldsT P ops i0 S T i o v a' := by
  unfold YieldsT at *
  rw [he, hw]
  exact hy
theorem YieldsT.wpOp {i : Nat} {o : Oper} {v : Value} {a : Act} {listed : Array Bool} (hi : ops[i]? = some o) (hun : listed.getD i true = false) (hy : YieldsT P ops i0 S T i o v a)
    {K : Act → World → Prop} {w : World} (hS : At1 i0 S T listed w) (h : ∀ w', At1 i0 S T (listed.setIfInBounds i true) w' → K (a.put o.dst v) w') : wpOp P ops Q i K a w := by
  have hlt : i < listed.size := by
    rcases Nat.lt_or_ge i listed.size with h | h
    · exact h
    · simp [Array.getElem?_eq_none h] at hun
  have key : ∀ (U V : World → Prop), U w → (∀ w, U w → RunYields P V v ((execOp a.eval o).run P w)) → (∀ w', V w' → At1 i0 S T (listed.setIfInBounds i true) w') → Region.wanted o (yielded ops a.tmps) = true → Go.wpOp P ops Q i K a w := by
    intro U V hU hv hV hw
    have h' : ∀ w', V w' → K (a.put o.dst v) w' := fun w' hw' => h w' (hV w' hw')
    unfold Go.wpOp
    simp only [hi, hw, if_true]
    refine .inl ?_
    have hr := hv w hU
    unfold Oper.wp
    generalize (execOp a.eval o).run P w = r at hr
    cases r with
    | ok n w' =>
      cases n <;> simp only [RunYields, Oper.upon] at hr ⊢
      case value u => obtain ⟨rfl, hS'⟩ := hr; exact h' _ hS'
      case skip => obtain ⟨hu, hS'⟩ := hr; rw [hu]; exact h' _ hS'
      case enter f args => exact Calls.mono hr (fun e w'' he => by obtain ⟨rfl, hS'⟩ := he; exact h' _ hS')
      case row row args => exact Rows.mono hr (fun u w'' he => by obtain ⟨rfl, hS'⟩ := he; exact h' _ hS')
    | halt x w' => simp [RunYields] at hr
  rcases hy with ⟨hw, h1, h2⟩ | ⟨hw, rfl, hne⟩
  · by_cases hii : i = i0
    · subst hii
      refine key S T ?_ (h1 rfl) (fun w' hw' => ?_) hw
      · unfold At1 at hS; rw [if_neg (by rw [hun]; simp)] at hS; exact hS
      · unfold At1; rw [if_pos (by simp [hlt])]; exact hw'
    · obtain ⟨hs, ht⟩ := h2 hii
      have hsame : (listed.setIfInBounds i true).getD i0 true = listed.getD i0 true := getD_set_ne true hii
      by_cases hl : listed.getD i0 true = true
      · refine key T T ?_ ht (fun w' hw' => ?_) hw
        · unfold At1 at hS; rw [if_pos hl] at hS; exact hS
        · unfold At1; rw [hsame, if_pos hl]; exact hw'
      · refine key S S ?_ hs (fun w' hw' => ?_) hw
        · unfold At1 at hS; rw [if_neg hl] at hS; exact hS
        · unfold At1; rw [hsame, if_neg hl]; exact hw'
  · unfold Go.wpOp
    simp only [hi, hw, Bool.false_eq_true, if_false]
    refine h _ ?_
    unfold At1 at *
    rw [getD_set_ne true hne]
    exact hS
/-- Whatever order is picked from here on, every operation yields its value in every world that meets S. -/
def detOne (P : Program) (md : Region.Mode) (ops : Array Oper) (i0 : Nat) (S T : World → Prop) (F : Array Bool → Act → Prop) : Nat → Array Bool → Act → Prop
  | 0, listed, a => Region.ready md ops listed = [] ∧ F listed a
  | n + 1, listed, a => (Region.ready md ops listed = [] → F listed a) ∧
    ∀ i ∈ Region.ready md ops listed, ∃ o v, ops[i]? = some o ∧ YieldsT P ops i0 S T i o v a ∧ detOne P md ops i0 S T F n (listed.setIfInBounds i true) (a.put o.dst v)
theorem detOne_sound : ∀ (n : Nat) (listed : Array Bool) (a : Act), detOne P md ops i0 S T (fun li a => li.getD i0 true = true ∧ ∀ w, T w → Q .normal a w) n listed a → ∀ w, At1 i0 S T listed w → wpAny P md ops Q n listed a w
  | 0, _, _, h, w, hS => ⟨h.1, h.2.2 w (by unfold At1 at hS; rw [if_pos h.2.1] at hS; exact hS)⟩
  | n + 1, _, _, h, w, hS => ⟨fun hr => (h.1 hr).2 w (by unfold At1 at hS; rw [if_pos (h.1 hr).1] at hS; exact hS), fun i hi => by
      obtain ⟨o, v, ho, hy, hd⟩ := h.2 i hi
      exact hy.wpOp ho (mem_ready.1 hi).1 hS (fun w' hS' => detOne_sound n _ _ hd w' hS')⟩
theorem detOne_first {i : Nat} {oi : Oper} {v : Value} (hi : ops[i]? = some oi) (hsel : ∀ (j : Nat) (o : Oper) cs b, ops[j]? = some o → o.op ≠ .select cs b) :
    ∀ (n : Nat) (listed : Array Bool) (a : Act),
      (∀ j oj, ops[j]? = some oj → j ≠ i → listed.getD j true = false → (∀ e ∈ oj.after, Region.binds md e = true → e.on ≠ i) → oi.apart ops oj = true) →
      i ∈ Region.ready md ops listed → YieldsT P ops i0 S T i oi v a →
      detOne P md ops i0 S T F n (listed.setIfInBounds i true) (a.put oi.dst v) → detOne P md ops i0 S T F (n + 1) listed a := by
  intro n
  induction n with
  | zero =>
    intro listed a _ hr hy H
    refine ⟨fun h => (by rw [h] at hr; cases hr), fun j hj => ?_⟩
    by_cases hji : j = i
    · subst hji; exact ⟨oi, v, hi, hy, H⟩
    · have := ready_mono hj hji
      rw [H.1] at this
      cases this
  | succ n ih =>
    intro listed a hfree hr hy H
    refine ⟨fun h => (by rw [h] at hr; cases hr), fun j hj => ?_⟩
    by_cases hji : j = i
    · subst hji; exact ⟨oi, v, hi, hy, H⟩
    · obtain ⟨oj, vj, hoj, hyj, Hj⟩ := H.2 j (ready_mono hj hji)
      obtain ⟨hjun, oj', hoj', hall⟩ := mem_ready.1 hj
      obtain rfl : oj' = oj := Option.some.inj (hoj'.symm.trans hoj)
      have hnot : ∀ e ∈ oj'.after, Region.binds md e = true → e.on ≠ i := fun e he hb heq => by
        have h1 := hall e he hb
        have h0 := (mem_ready.1 hr).1
        rw [heq] at h1
        rcases Nat.lt_or_ge i listed.size with h' | h'
        · simp [h'] at h0 h1; rw [h0] at h1; cases h1
        · simp [Array.getElem?_eq_none h'] at h1
      have hap := hfree j oj' hoj hji hjun hnot
      obtain ⟨h1, h2, h3⟩ := Oper.apart_spec hap
      have hsi : ∀ cs b, oi.op ≠ .select cs b := fun cs b => hsel i oi cs b hi
      have hsj : ∀ cs b, oj'.op ≠ .select cs b := fun cs b => hsel j oj' cs b hoj
      have hfree' : ∀ k ok, ops[k]? = some ok → k ≠ i → (listed.setIfInBounds j true).getD k true = false →
          (∀ e ∈ ok.after, Region.binds md e = true → e.on ≠ i) → oi.apart ops ok = true := fun k ok hk hki hun hno => by
        refine hfree k ok hk hki ?_ hno
        by_cases hjk : j = k
        · subst hjk; exact hjun
        · rw [getD_set_ne true hjk] at hun; exact hun
      refine ⟨oj', vj, hoj, hyj.of_same (execOp_put oj' hsj a oi.dst v h1).symm (wanted_put oj' a oi.dst v h1).symm, ?_⟩
      refine ih (listed.setIfInBounds j true) (a.put oj'.dst vj) hfree' (ready_mono hr (Ne.symm hji)) (hy.of_same (execOp_put oi hsi a oj'.dst vj h3) (wanted_put oi a oj'.dst vj h3)) ?_
      rw [Array.setIfInBounds_comm _ _ hji, ← Act.put_comm a v vj h2]
      exact Hj
def oneList (P : Program) (ops : Array Oper) (i0 : Nat) (S T : World → Prop) (F : Array Bool → Act → Prop) : List Oper → Nat → Array Bool → Act → Prop
  | [], _, listed, a => F listed a
  | o :: rest, k, listed, a => ∃ v, YieldsT P ops i0 S T k o v a ∧ oneList P ops i0 S T F rest (k + 1) (listed.setIfInBounds k true) (a.put o.dst v)
theorem detOne_list (hsel : Region.noSelect ops = true) : ∀ (l : List Oper) (k : Nat) (listed : Array Bool) (a : Act), (∀ j, l[j]? = ops[k + j]?) →
    inOrder md ops (List.range' k l.length) listed = true → oneList P ops i0 S T F l k listed a → detOne P md ops i0 S T F l.length listed a
  | [], k, listed, a, _, ho, h => by
    simp only [List.length_nil, List.range'_zero, inOrder, List.isEmpty_iff] at ho
    exact ⟨ho, h⟩
  | o :: l, k, listed, a, hl, ho, h => by
    have h0 : ops[k]? = some o := by simpa using (hl 0).symm
    simp only [List.length_cons, List.range'_succ, inOrder, Bool.and_eq_true] at ho
    obtain ⟨⟨hf, hr⟩, ho⟩ := ho
    obtain ⟨v, hy, hd⟩ := h
    exact detOne_first h0 (Region.noSelect_spec hsel) l.length listed a (Region.free_spec h0 hf) (by simpa using hr) hy
      (detOne_list hsel l (k + 1) _ _ (fun j => by have := hl (j + 1); simpa [Nat.add_assoc, Nat.add_comm 1 j] using this) ho hd)
end
theorem wp_region_one {P : Program} {id : Nat} {l : List Oper} {Q : Exit → Act → World → Prop} {a : Act} {w : World} (i0 : Nat) (S T : World → Prop) (hm : P.follows .mixedOrders = true)
    (hok : detOk l = true) (hi0 : i0 < l.length) (hS : S w.drew) (h : oneList P l.toArray i0 S T (fun li a => li.getD i0 true = true ∧ ∀ w, T w → Q .normal a w) l 0 (Array.replicate l.length false) a) : (Code.region id l.toArray true).wp P Q a w := by
  simp only [detOk, Bool.and_eq_true] at hok
  have hd := detOne_list (md := .any) (P := P) (S := S) (T := T) (i0 := i0) hok.1 l 0 (Array.replicate l.length false) a (fun j => by simp) hok.2 h
  refine wp_region_any hm ?_
  have := detOne_sound (Q := Q) _ _ _ hd w.drew (by unfold At1; rw [if_neg (by simp [hi0])]; exact hS)
  simpa using this
/-! The steps. -/
section
variable {P : Program} {ops : Array Oper} {i0 k : Nat} {S T : World → Prop} {F : Array Bool → Act → Prop} {o : Oper} {rest : List Oper} {a : Act} {li : Array Bool}
theorem one_nil (h : F li a) : oneList P ops i0 S T F [] k li a := h
theorem one_pure {v : Value} (hk : k ≠ i0) (hw : Region.wanted o (yielded ops a.tmps) = true) (h : ∀ w, S w ∨ T w → (execOp a.eval o).run P w = .ok (.value v) w)
    (n : oneList P ops i0 S T F rest (k + 1) (li.setIfInBounds k true) (a.put o.dst v)) : oneList P ops i0 S T F (o :: rest) k li a :=
  ⟨v, .inl ⟨hw, fun e => absurd e hk, fun _ => ⟨fun w hS => by rw [h w (.inl hS)]; exact ⟨rfl, hS⟩, fun w hT => by rw [h w (.inr hT)]; exact ⟨rfl, hT⟩⟩⟩, n⟩
theorem one_skip (hk : k ≠ i0) (hw : Region.wanted o (yielded ops a.tmps) = false) (n : oneList P ops i0 S T F rest (k + 1) (li.setIfInBounds k true) (a.put o.dst undef)) : oneList P ops i0 S T F (o :: rest) k li a :=
  ⟨undef, .inr ⟨hw, rfl, hk⟩, n⟩
theorem one_call {v : Value} {f : FuncId} {args : Array Value} (hk : k = i0) (hw : Region.wanted o (yielded ops a.tmps) = true) (h : ∀ w, S w → (execOp a.eval o).run P w = .ok (.enter f args) w)
    (hc : ∀ w, S w → Calls P f args w fun e w' => e = .returned v ∧ T w') (n : oneList P ops i0 S T F rest (k + 1) (li.setIfInBounds k true) (a.put o.dst v)) : oneList P ops i0 S T F (o :: rest) k li a :=
  ⟨v, .inl ⟨hw, fun _ w hS => by rw [h w hS]; exact hc w hS, fun e => absurd hk e⟩, n⟩
end
end Go.Proofs.Ytgmhhocpdfdplaa
/- A region of one order, each of whose operations (guarded ones too) yields one value in every world that meets S and keeps S: the words of XDet serve. Over any program. -/
namespace Go.Proofs.Ytgmhhocpdfdplaa
open Go.RowKit
theorem wpList_det {P : Program} {ops : Array Oper} {S : World → Prop} {Q : Exit → Act → World → Prop} : ∀ (l : List Oper) (a : Act) (w : World), S w → detList P ops S (fun a => ∀ w, S w → Q .normal a w) l a → wpList P ops Q l a w
  | [], _, w, hS, h => h w hS
  | o :: rest, a, w, hS, h => by
    obtain ⟨v, hy, hd⟩ := h
    unfold wpList
    rcases hy with ⟨hw, hv⟩ | ⟨hw, rfl⟩
    · simp only [hw, if_true]
      refine .inl ?_
      have hr := hv w hS
      unfold Oper.wp
      generalize (execOp a.eval o).run P w = r at hr
      cases r with
      | ok n w' =>
        cases n <;> simp only [RunYields, Oper.upon] at hr ⊢
        case value u => obtain ⟨rfl, hS'⟩ := hr; exact wpList_det rest _ _ hS' hd
        case skip => obtain ⟨hu, hS'⟩ := hr; rw [hu]; exact wpList_det rest _ _ hS' hd
        case enter f args => exact Calls.mono hr (fun e w'' he => by obtain ⟨rfl, hS'⟩ := he; exact wpList_det rest _ _ hS' hd)
        case row row args => exact Rows.mono hr (fun u w'' he => by obtain ⟨rfl, hS'⟩ := he; exact wpList_det rest _ _ hS' hd)
      | halt x w' => simp [RunYields] at hr
    · simp only [hw, Bool.false_eq_true, if_false]
      exact wpList_det rest _ _ hS hd
theorem wp_region_seq {P : Program} {id : Nat} {l : List Oper} {Q : Exit → Act → World → Prop} {a : Act} {w : World} (S : World → Prop) (hS : S w)
    (h : detList P l.toArray S (fun a => ∀ w, S w → Q .normal a w) l a) : (Code.region id l.toArray false).wp P Q a w := by
  refine wp_region ?_
  have e : List.range l.toArray.size = List.range' 0 l.length := by simp [List.range_eq_range']
  rw [e, wpOps_eq_wpList l 0 (fun j => by simp)]
  exact wpList_det l a w hS h
end Go.Proofs.Ytgmhhocpdfdplaa
/- Arguments opened: an array of integers, over any program. -/
namespace Go.Proofs.Ytgmhhocpdfdplaa
open Go.ChangeShapes Go.WideShapes Go.ChangeAt Go.RowKit
section
variable {H : Type} {enc : TypeId × Value → H} {P : Program} {w : World} {base : Nat} {sp : Nat → Bool} {held : Bool}
theorem ints_of_trod {t e : TypeId} {n fuel : Nat} {k : IntKind} {cs : List Value} {x : DataW H × List MemPlace} (ht : P.underlying t = some (.array n e)) (he : P.underlying e = some (.int k)) (hce : P.cellsOf e = 1) (hct : P.cellsOf t = n)
    (h : DataW.trod enc P w base sp held fuel t cs = some x) : ∃ xs : List Int, cs = xs.map (Value.int k) ∧ xs.length = n ∧ ∀ y ∈ xs, (Lit.int k y).wf = true := by
  obtain ⟨ys, m, _, rfl, hl, hyl, hel⟩ := DataW.trod_array ht h
  have key : ∀ i, i < n → ∃ z, cs[i]? = some (.int k z) ∧ (Lit.int k z).wf = true := by
    intro i hi
    have h1 := hel i hi
    rw [hce, Nat.mul_one, List.getElem?_eq_getElem (by omega)] at h1
    obtain ⟨z, hz, _, hwf⟩ := DataW.trod_int he h1
    refine ⟨z, ?_, hwf⟩
    have h2 : ((cs.drop i).take 1)[0]? = some (.int k z) := by rw [hz]; rfl
    simpa [List.getElem?_take, List.getElem?_drop] using h2
  have hlen : cs.length = n := hl.trans hct
  refine ⟨cs.map (fun c => intOf c), ?_, by simpa using hlen, ?_⟩
  · apply List.ext_getElem?
    intro i
    by_cases hi : i < n
    · obtain ⟨z, hz, _⟩ := key i hi
      simp [List.getElem?_map, hz, intOf]
    · rw [List.getElem?_eq_none (by omega), List.getElem?_eq_none (by simp; omega)]
  · intro y hy
    obtain ⟨c, hc, rfl⟩ := List.mem_map.1 hy
    obtain ⟨i, hi, hci⟩ := List.mem_iff_getElem.1 hc
    obtain ⟨z, hz, hwf⟩ := key i (by omega)
    rw [List.getElem?_eq_getElem hi, hci] at hz
    obtain rfl := Option.some.inj hz
    exact hwf
theorem open_ints_arr {r : Reach} {b0 : Nat} {t e : TypeId} {n : Nat} {k : IntKind} {v : Value} {d : DataW H} {p : List MemPlace} (ht : P.underlying t = some (.array n e)) (he : P.underlying e = some (.int k)) (hce : P.cellsOf e = 1) (hct : P.cellsOf t = n)
    (hv : Value.okWide P w r b0 t v) (h : DataW.Trod enc P w base sp held t v d p) : ∃ xs : List Int, v = .agg (ints k xs) ∧ xs.length = n ∧ ∀ y ∈ xs, (Lit.int k y).wf = true := by
  unfold Value.okWide at hv
  rw [ht] at hv
  obtain ⟨cs, rfl, _, _⟩ := hv
  obtain ⟨fuel, hf⟩ := h
  obtain ⟨xs, hcs, hl, hw⟩ := ints_of_trod ht he hce hct hf
  refine ⟨xs, ?_, hl, hw⟩
  simp only [Value.cells] at hcs
  congr 1
  unfold ints
  rw [← hcs]
end
theorem wf_getD {k : IntKind} {xs : List Int} (h : ∀ y ∈ xs, (Lit.int k y).wf = true) (h0 : (Lit.int k 0).wf = true) (i : Nat) : (Lit.int k (xs.getD i 0)).wf = true := by
  rw [List.getD_eq_getElem?_getD]
  cases hx : xs[i]? with
  | none => exact h0
  | some y => exact h y (List.mem_of_getElem? hx)
end Go.Proofs.Ytgmhhocpdfdplaa
/- Arguments opened: a slice of elements of several cells each, over any program. -/
namespace Go.Proofs.Ytgmhhocpdfdplaa
open Go.ChangeShapes Go.WideShapes Go.ChangeAt Go.RowKit
/-- The slice value v has these elements, of size cells each, in the world. -/
def Elems (w : World) (size : Nat) (v : Value) (cells : List (List Value)) : Prop :=
  cells.length ≤ maxLen ∧ (∀ c ∈ cells, c.length = size) ∧ ((v = .slice none 0 0 ∧ cells = []) ∨
    ∃ (a : Addr) (cap : Nat), v = .slice (some a) cells.length cap ∧ cells.length ≤ cap ∧ cap ≤ maxLen ∧ ∀ i, i < cells.length → ∀ j, j < size → w.cell? (a.add (i * size + j)) = (cells.getD i [])[j]?)
theorem Elems.len {w : World} {size : Nat} {v : Value} {cells : List (List Value)} (h : Elems w size v cells) : ∃ b cap, v = .slice b cells.length cap ∧ cells.length ≤ cap ∧ cap ≤ maxLen := by
  rcases h.2.2 with ⟨rfl, rfl⟩ | ⟨a, cap, rfl, h1, h2, _⟩
  · exact ⟨_, _, rfl, Nat.le_refl _, Nat.zero_le _⟩
  · exact ⟨_, _, rfl, h1, h2⟩
theorem Elems.at {w w' : World} {size : Nat} {v : Value} {cells : List (List Value)} (h : Elems w size v cells) (hb : Below w.heap.size w w') {i : Nat} (hi : i < cells.length) :
    ∃ a cap, v = .slice (some a) cells.length cap ∧ ∀ j, j < size → w'.cell? (a.add (i * size + j)) = (cells.getD i [])[j]? := by
  rcases h.2.2 with ⟨rfl, rfl⟩ | ⟨a, cap, rfl, _, _, hc⟩
  · simp at hi
  · refine ⟨a, cap, rfl, fun j hj => ?_⟩
    have h1 := hc i hi j hj
    have hl : (cells.getD i []).length = size := by
      rw [List.getD_eq_getElem?_getD, List.getElem?_eq_getElem hi]
      exact h.2.1 _ (List.getElem_mem hi)
    obtain ⟨u, hu⟩ : ∃ u, (cells.getD i [])[j]? = some u := ⟨_, List.getElem?_eq_getElem (by omega)⟩
    rw [hu] at h1 ⊢
    exact (hb.cell (p := a.add (i * size + j)) (World.block_lt_of_cell? w _ h1)).trans h1
theorem Elems.below {w w' : World} {size : Nat} {v : Value} {cells : List (List Value)} (h : Elems w size v cells) (hb : Below w.heap.size w w') : Elems w' size v cells := by
  refine ⟨h.1, h.2.1, ?_⟩
  rcases h.2.2 with h0 | ⟨a, cap, rfl, h1, h2, hc⟩
  · exact .inl h0
  · refine .inr ⟨a, cap, rfl, h1, h2, fun i hi j hj => ?_⟩
    obtain ⟨a', cap', he, hx⟩ := h.at hb hi
    simp only [Value.slice.injEq, Option.some.injEq] at he
    rw [he.1]
    exact hx j hj
theorem exists_map {α β : Type} {f : α → β} {p : α → Prop} : ∀ (l : List β), (∀ c ∈ l, ∃ a, c = f a ∧ p a) → ∃ l' : List α, l = l'.map f ∧ ∀ a ∈ l', p a
  | [], _ => ⟨[], rfl, fun _ h => by cases h⟩
  | c :: l, h => by
    obtain ⟨a, rfl, ha⟩ := h c (by simp)
    obtain ⟨l', rfl, hl⟩ := exists_map l (fun c hc => h c (by simp [hc]))
    exact ⟨a :: l', rfl, fun b hb => by rcases List.mem_cons.1 hb with rfl | hb; exact ha; exact hl b hb⟩
section
variable {H : Type} {enc : TypeId × Value → H} {P : Program} {w : World} {base : Nat} {sp : Nat → Bool} {held : Bool}
theorem open_elems_trod {t e : TypeId} {fuel : Nat} {u : Value} {x : DataW H × List MemPlace} (ht : P.underlying t = some (.slice e)) (hf : DataW.trod enc P w base sp held fuel t [u] = some x) :
    ∃ cells, Elems w (P.cellsOf e) u cells ∧ ∀ c ∈ cells, ∃ n y, DataW.trod enc P w base sp held n e c = some y := by
  rcases Go.Deep.open_slice ht hf with ⟨hcs, _⟩ | ⟨a, len, cap, m, n, D, Pl, hcs, _, hl, hm, hmm, _, hx⟩
  · exact ⟨[], ⟨by simp, fun _ h => by (cases h), .inl ⟨by simpa using hcs, rfl⟩⟩, fun _ h => by cases h⟩
  · have hlm : len ≤ m := by rw [hmm]; split <;> omega
    have hc : ∀ i, i < len → ∃ cs', w.cells? base (a.add (i * P.cellsOf e)) (P.cellsOf e) = some cs' ∧ ∃ y, DataW.trod enc P w base sp held n e cs' = some y := fun i hi =>
      let ⟨cs', h1, h2⟩ := hx i (by omega); ⟨cs', h1, _, h2⟩
    obtain ⟨C, hC⟩ := Go.Deep.choose_lt hc
    have hu : u = .slice (some a) len cap := by simpa using hcs
    have hlen : ((List.range len).map C).length = len := by simp
    refine ⟨(List.range len).map C, ⟨by rw [hlen]; omega, ?_, .inr ⟨a, cap, by rw [hu, hlen], by rw [hlen]; exact hl, hm, fun i hi j hj => ?_⟩⟩, ?_⟩
    · intro c hcm
      obtain ⟨i, hi, rfl⟩ := List.mem_map.1 hcm
      exact (World.cells?_some (hC i (List.mem_range.1 hi)).1).2.1
    · rw [hlen] at hi
      have h1 := (World.cells?_some (hC i hi).1).2.2 j hj
      rw [Go.Deep.add_add] at h1
      rw [h1]
      simp [List.getD_eq_getElem?_getD, hi]
    · intro c hcm
      obtain ⟨i, hi, rfl⟩ := List.mem_map.1 hcm
      obtain ⟨_, y, hy⟩ := hC i (List.mem_range.1 hi)
      exact ⟨n, y, hy⟩
theorem open_elems {r : Reach} {b0 : Nat} {t e : TypeId} {v : Value} {d : DataW H} {p : List MemPlace} (ht : P.underlying t = some (.slice e))
    (hv : Value.okWide P w r b0 t v) (h : DataW.Trod enc P w base sp held t v d p) : ∃ cells, Elems w (P.cellsOf e) v cells ∧ ∀ c ∈ cells, ∃ n y, DataW.trod enc P w base sp held n e c = some y := by
  obtain ⟨fuel, hf⟩ := h
  have hvc : v.cells = #[v] := by
    unfold Value.okWide at hv
    rw [ht] at hv
    simp only at hv
    unfold Cell.okWide at hv
    cases v <;> first | rfl | (simp only [ht] at hv; unfold Cell.ok at hv; simp [ht] at hv)
  rw [hvc] at hf
  exact open_elems_trod ht hf
end
end Go.Proofs.Ytgmhhocpdfdplaa
