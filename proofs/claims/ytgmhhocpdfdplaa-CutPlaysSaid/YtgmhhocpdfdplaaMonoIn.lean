/- 'wp_region_mono' in a fence (an iterator's own body, a round): the front's operations only read one fixed world, in any order; the rest comes in one order. Over any program. -/
import Derived.Test.YtgmhhocpdfdplaaGA
import Derived.Test.YtgmhhocpdfdplaaRange
namespace Go.Proofs.Ytgmhhocpdfdplaa
open Go.RowKit Go.Shelf
section
variable {P : Program} {ops : Array Oper} {md : Region.Mode} {dep : Nat → List Nat} {Fr : Nat → Bool} {Q : Exit → Act → World → Prop} {m : Nat}
theorem detM_soundIn (r : Option Nat) (w : World) (k : Nat) (hnd : ∀ i o, ops[i]? = some o → Fr i = true → ∀ c, o.op ≠ .defer c)
    (htail : ∀ i, i < ops.size → ¬ Fr i = true → ∀ j, Fr j = true → j ∈ mark md ops (List.range i).reverse (edgesOf md ops i)) :
    ∀ (n : Nat) (listed : Array Bool) (a : Act) (Fs : Nat → Option Fact), Closed md ops listed →
      detM P md ops (fun W => W = w) (fun _ => none) dep Fr (fun listed a _ => wpAnyIn { Fence.wide with round := r } m P md ops Q k listed a w) n listed a Fs → wpAnyIn { Fence.wide with round := r } m P md ops Q (n + k) listed a w
  | 0, listed, a, Fs, _, h => by rw [Nat.zero_add]; exact h.2
  | n + 1, listed, a, Fs, hcl, h => by
    obtain ⟨⟨i0, hi0, hi0m⟩, h⟩ := h
    rw [Nat.add_right_comm]
    refine ⟨fun hr => (by rw [hr] at hi0; cases hi0), fun i hi => ?_⟩
    by_cases him : Fr i = true
    · obtain ⟨o, ho, hst⟩ := h i hi him
      unfold wpOpIn
      simp only [ho]
      rcases hst with ⟨hw, hst⟩ | ⟨hw, v, hv, hst⟩
      · simp only [hw, Bool.false_eq_true, if_false]
        exact ⟨fun _ _ => trivial, detM_soundIn r w k hnd htail n _ _ Fs (hcl.set hi) hst⟩
      · simp only [hw, if_true]
        refine opIn_of_op r (hnd i o ho him) ?_
        unfold Oper.wp
        rw [hv w rfl]
        exact detM_soundIn r w k hnd htail n _ _ Fs (hcl.set hi) hst
    · exfalso
      obtain ⟨_, o, ho, hall⟩ := mem_ready.1 hi
      have hm := htail i (Array.getElem?_eq_some_iff.1 ho).1 him i0 hi0m
      have h1 := mark_listed hcl _ _ (fun x hx => by
        obtain ⟨e, he, hb, rfl⟩ := (mem_edgesOf ho).1 hx
        exact hall e he hb) i0 hm
      have h0 := (mem_ready.1 hi0).1
      rcases Nat.lt_or_ge i0 listed.size with h' | h'
      · simp [h'] at h0 h1; rw [h0] at h1; cases h1
      · simp [Array.getElem?_eq_none h'] at h1
theorem wpAnyIn_tail (F : Fence) : ∀ (tl : List Nat) (l : List Oper) (listed : Array Bool) (a : Act) (w : World), tl.map (fun i => ops[i]?) = l.map some → tailOrder md ops tl listed = true → wpListIn F m P ops Q l a w → wpAnyIn F m P md ops Q tl.length listed a w
  | [], [], listed, a, w, _, ht, h => by
    simp only [tailOrder, beq_iff_eq] at ht
    exact ⟨ht, h⟩
  | [], _ :: _, _, _, _, hl, _, _ => by simp at hl
  | _ :: _, [], _, _, _, hl, _, _ => by simp at hl
  | i :: tl, o :: l, listed, a, w, hl, ht, h => by
    simp only [List.map_cons, List.cons.injEq] at hl
    obtain ⟨h0, hl⟩ := hl
    simp only [tailOrder, Bool.and_eq_true, beq_iff_eq] at ht
    refine ⟨fun hr => (by rw [ht.1] at hr; cases hr), fun j hj => ?_⟩
    rw [ht.1] at hj
    simp only [List.mem_singleton] at hj
    subst hj
    have ih := fun a w => wpAnyIn_tail F tl l (listed.setIfInBounds j true) a w hl ht.2
    unfold wpOpIn
    simp only [h0]
    unfold wpListIn at h
    split
    · rename_i hw
      rw [if_pos hw] at h
      exact Oper.wpIn_mono (fun a w => ih a w) h
    · rename_i hw
      rw [if_neg hw] at h
      exact ⟨h.1, ih _ _ h.2⟩
end
theorem wpIn_region_mono {P : Program} {id m : Nat} {l : List Oper} {Q : Exit → Act → World → Prop} {a : Act} {w : World} (r : Option Nat) (ord tl : List Nat) (hm : P.follows .mixedOrders = true)
    (hok : monoOk (fun _ => []) ord tl l = true) (hd : ord.all (fun i => match (l.getD i default).op with | .defer _ => false | _ => true) = true)
    (h : monoL P l.toArray (fun W => W = w.drew) (fun _ => none) (fun _ => []) (fun a _ => wpListIn { Fence.wide with round := r } m P l.toArray Q (pick l tl) a w.drew) (ord.zip (pick l ord)) a (fun _ => none)) :
    (Code.region id l.toArray true).wpIn { Fence.wide with round := r } m P Q a w := by
  simp only [monoOk, Bool.and_eq_true, decide_eq_true_eq, List.all_eq_true, Bool.or_eq_true, List.mem_range, List.contains_iff_mem, Bool.not_eq_true'] at hok
  obtain ⟨⟨⟨⟨⟨⟨⟨hsel, hlen⟩, htl⟩, hord⟩, hfront⟩, hready⟩, htail⟩, hedge⟩ := hok
  have hzip := zip_pick l ord hord
  have h := monoL_list _ hzip.2 _ _ h
  rw [hzip.1] at h
  have hdt := detM_list (md := .any) (P := P) (G := fun W => W = w.drew) (sp := fun _ => none) (dep := fun _ => []) (Fr := fun j => ord.contains j) (ops := l.toArray) ⟨_, rfl⟩ hsel _ ord (Array.replicate l.length false) a (fun _ => none)
    (fun i hi => by simpa using hi) (fun j hj hc => by have := hready j hj; rw [hc] at this; cases this) hfront h
  have hfin : ∀ (n : Nat) (listed : Array Bool) (a : Act) (Fs : Nat → Option Fact), detM P .any l.toArray (fun W => W = w.drew) (fun _ => none) (fun _ => []) (fun j => ord.contains j) (fun li a _ => li = setAll ord (Array.replicate l.length false) ∧ wpListIn { Fence.wide with round := r } m P l.toArray Q (pick l tl) a w.drew) n listed a Fs →
      detM P .any l.toArray (fun W => W = w.drew) (fun _ => none) (fun _ => []) (fun j => ord.contains j) (fun li a _ => wpAnyIn { Fence.wide with round := r } m P .any l.toArray Q tl.length li a w.drew) n listed a Fs := by
    intro n
    induction n with
    | zero =>
      intro listed a Fs h
      refine ⟨h.1, ?_⟩
      obtain ⟨_, rfl, h2⟩ := h
      exact wpAnyIn_tail (P := P) (md := .any) (Q := Q) (ops := l.toArray) _ tl (pick l tl) _ a _ (pick_spec l tl htl) htail h2
    | succ n ih =>
      intro listed a Fs h
      exact ⟨h.1, fun i hi him => by obtain ⟨o, ho, hs⟩ := h.2 i hi him; exact ⟨o, ho, hs.mono fun a' Fs' h' => ih _ a' Fs' h'⟩⟩
  have hs := detM_soundIn (P := P) (Q := Q) (md := .any) (m := m) r w.drew tl.length (fun i o ho hi c hc => by
      have h1 := hd
      simp only [List.all_eq_true] at h1
      have h2 := h1 i (by simpa using hi)
      have h3 : l.getD i default = o := by
        rw [List.getElem?_toArray] at ho
        rw [List.getD_eq_getElem?_getD, ho]; rfl
      rw [h3, hc] at h2
      cases h2) (fun i hi hmi j hj => by
    rcases hedge i (by simpa using hi) with h1 | h1
    · exact absurd (by simpa using h1) hmi
    · exact h1 j (by simpa using hj)) ord.length (Array.replicate l.length false) a (fun _ => none)
    (fun k hk => by simp [Array.getElem?_replicate] at hk; split at hk <;> simp at hk) (hfin _ _ _ _ hdt)
  refine wpIn_region_any hm ?_
  have e : ord.length + tl.length = l.toArray.size := by simpa using hlen
  rw [e] at hs
  simpa using hs
end Go.Proofs.Ytgmhhocpdfdplaa
