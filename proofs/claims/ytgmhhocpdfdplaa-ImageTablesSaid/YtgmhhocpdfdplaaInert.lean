/- In a region that draws its order, what only moves a value may be done first, at once. Over any program. -/
import Derived.Test.YtgmhhocpdfdplaaMono
namespace Go.Proofs.Ytgmhhocpdfdplaa
open Go.RowKit
/-- No way out but the normal one. -/
def onlyN (Q : Exit → Act → World → Prop) : Exit → Act → World → Prop := fun e a w => e = .normal ∧ Q .normal a w
theorem onlyN_letsOut {Q : Exit → Act → World → Prop} (h : LetsOut (onlyN Q)) : False := by
  obtain ⟨a, w, h, _⟩ := h; cases h
theorem onlyN_intro {Q : Exit → Act → World → Prop} {a : Act} {w : World} (h : Q .normal a w) : onlyN Q .normal a w := ⟨rfl, h⟩
section
variable {P : Program} {ops : Array Oper} {md : Region.Mode} {Q : Exit → Act → World → Prop}
theorem upon_trans {Q' : Exit → Act → World → Prop} {o : Oper} {a : Act} {d : Option Tmp} {v : Value} {K K' : Act → World → Prop} {r : Result Next}
    (hK : ∀ ds u w', K ((({ a with defers := ds } : Act).put d v).put o.dst u) w' → K' (({ a with defers := ds } : Act).put o.dst u) w')
    (h : o.upon P (a.put d v) K (onlyN Q) r) : o.upon P a K' Q' r := by
  have e0 : ∀ ds, ({ a.put d v with defers := ds } : Act) = ({ a with defers := ds } : Act).put d v := fun ds => by cases d <;> rfl
  have e1 : (a.put d v).defers = a.defers := by cases d <;> rfl
  cases r with
  | ok n w' =>
    cases n with
    | value u => exact hK a.defers u w' h
    | skip => exact hK a.defers undef w' h
    | defer dd =>
      refine hK (dd :: a.defers) undef w' ?_
      have h' : K (({ a.put d v with defers := dd :: (a.put d v).defers } : Act).put o.dst undef) w' := h
      rw [e1, e0] at h'
      exact h'
    | enter f as =>
      refine Calls.mono (show Calls P f as w' _ from h) fun e w2 he => ?_
      cases e with
      | returned u => exact hK a.defers u w2 he
      | panicked c => obtain ⟨h, _⟩ := he; cases h
      | outgrown => exact (onlyN_letsOut he).elim
    | row r as => exact Rows.mono (show Rows P r as w' _ from h) fun u w2 he => hK a.defers u w2 he
    | _ => exact h.elim
  | halt x w' =>
    cases x <;> first | exact h.elim | (obtain ⟨h, _⟩ := h; cases h)
theorem wpAny_onlyN : ∀ (n : Nat) (listed : Array Bool) (a : Act) (w : World), wpAny P md ops (onlyN Q) n listed a w → wpAny P md ops Q n listed a w
  | 0, _, _, _, h => ⟨h.1, h.2.2⟩
  | n + 1, listed, a, w, h => by
    refine ⟨fun hr => (h.1 hr).2, fun j hj => ?_⟩
    have hw := h.2 j hj
    unfold Go.wpOp at hw ⊢
    split
    · rename_i hn; simp only [hn] at hw; exact wpAny_onlyN n _ _ _ hw
    · rename_i o ho
      simp only [ho] at hw
      split
      · rename_i hwt
        rw [if_pos hwt] at hw
        rcases hw with hw | ⟨_, hw⟩
        · exact .inl (upon_trans (d := none) (v := undef) (fun ds u w' h => wpAny_onlyN n _ _ _ h) hw)
        · exact (onlyN_letsOut hw).elim
      · rename_i hwt
        rw [if_neg hwt] at hw
        exact wpAny_onlyN n _ _ _ hw
/-- What yields one value in every world, and is free, may be done first. -/
theorem wpAny_inert (hsel : Region.noSelect ops = true) {i : Nat} {oi : Oper} {v : Value} (hi : ops[i]? = some oi) (hg : oi.guard = none) :
    ∀ (n : Nat) (listed : Array Bool) (a : Act) (w : World), (∀ w, (execOp a.eval oi).run P w = .ok (.value v) w) → i ∈ Region.ready md ops listed →
      (∀ j oj, ops[j]? = some oj → j ≠ i → listed.getD j true = false → (∀ e ∈ oj.after, Region.binds md e = true → e.on ≠ i) → oi.apart ops oj = true) →
      wpAny P md ops (onlyN Q) n (listed.setIfInBounds i true) (a.put oi.dst v) w → wpAny P md ops (onlyN Q) (n + 1) listed a w := by
  have sel := Region.noSelect_spec hsel
  intro n
  induction n with
  | zero =>
    intro listed a w hv hr hfree h
    refine ⟨fun e => (by rw [e] at hr; cases hr), fun j hj => ?_⟩
    by_cases hji : j = i
    · subst hji
      unfold Go.wpOp
      simp only [hi, Region.wanted, hg, if_true]
      refine .inl ?_
      unfold Oper.wp
      rw [hv w]
      exact h
    · exact absurd (ready_mono hj hji) (by rw [h.1]; simp)
  | succ n ih =>
    intro listed a w hv hr hfree h
    refine ⟨fun e => (by rw [e] at hr; cases hr), fun j hj => ?_⟩
    by_cases hji : j = i
    · subst hji
      unfold Go.wpOp
      simp only [hi, Region.wanted, hg, if_true]
      refine .inl ?_
      unfold Oper.wp
      rw [hv w]
      exact h
    · obtain ⟨hjun, oj, hoj, hall⟩ := mem_ready.1 hj
      have hnot : ∀ e ∈ oj.after, Region.binds md e = true → e.on ≠ i := fun e he hb heq => by
        have h1 := hall e he hb
        have h0 := (mem_ready.1 hr).1
        rw [heq] at h1
        rcases Nat.lt_or_ge i listed.size with h' | h'
        · simp [h'] at h0 h1; rw [h0] at h1; cases h1
        · simp [Array.getElem?_eq_none h'] at h1
      obtain ⟨p1, p2, p3⟩ := Oper.apart_spec (hfree j oj hoj hji hjun hnot)
      have hw := h.2 j (ready_mono hj hji)
      have hfree' : ∀ k ok, ops[k]? = some ok → k ≠ i → (listed.setIfInBounds j true).getD k true = false →
          (∀ e ∈ ok.after, Region.binds md e = true → e.on ≠ i) → oi.apart ops ok = true := fun k ok hk hki hun hno => by
        refine hfree k ok hk hki ?_ hno
        by_cases hjk : j = k
        · subst hjk; exact hjun
        · rw [getD_set_ne true hjk] at hun; exact hun
      have hr' : i ∈ Region.ready md ops (listed.setIfInBounds j true) := ready_mono hr (Ne.symm hji)
      have step : ∀ ds u w', wpAny P md ops (onlyN Q) n ((listed.setIfInBounds i true).setIfInBounds j true) ((({ a with defers := ds } : Act).put oi.dst v).put oj.dst u) w' →
          wpAny P md ops (onlyN Q) (n + 1) (listed.setIfInBounds j true) (({ a with defers := ds } : Act).put oj.dst u) w' := by
        intro ds u w' hh
        refine ih _ _ _ (fun w => ?_) hr' hfree' ?_
        · rw [execOp_put oi (fun cs b => sel i oi cs b hi) _ _ _ p3]; exact hv w
        · rw [Array.setIfInBounds_comm _ _ (fun e => hji e.symm), Act.put_comm _ v u p2] at hh
          exact hh
      unfold Go.wpOp at hw ⊢
      simp only [hoj] at hw ⊢
      rw [wanted_put oj a oi.dst v p1] at hw
      split
      · rename_i hwt
        rw [if_pos hwt] at hw
        rcases hw with hw | ⟨_, hw⟩
        · refine .inl ?_
          unfold Oper.wp at hw ⊢
          rw [execOp_put oj (fun cs b => sel j oj cs b hoj) a oi.dst v p1] at hw
          exact upon_trans step hw
        · exact (onlyN_letsOut hw).elim
      · rename_i hwt
        rw [if_neg hwt] at hw
        exact step a.defers undef w hw
/-- The walk of what is done first. -/
def insWalk (P : Program) (F : Act → Prop) : List (Nat × Oper) → Act → Prop
  | [], a => F a
  | (_, o) :: r, a => ∃ v, (∀ w, (execOp a.eval o).run P w = .ok (.value v) w) ∧ insWalk P F r (a.put o.dst v)
def insOk (md : Region.Mode) (ops : Array Oper) : List Nat → Array Bool → Bool
  | [], _ => true
  | i :: r, listed => Region.free md ops listed i && (Region.ready md ops listed).contains i && (match ops[i]? with | some o => o.guard == none | none => false) && insOk md ops r (listed.setIfInBounds i true)
theorem wpAny_ins (hsel : Region.noSelect ops = true) {n : Nat} {w : World} : ∀ (l : List (Nat × Oper)) (listed : Array Bool) (a : Act), (∀ p ∈ l, ops[p.1]? = some p.2) → insOk md ops (l.map (·.1)) listed = true →
    insWalk P (fun a => wpAny P md ops (onlyN Q) n (setAll (l.map (·.1)) listed) a w) l a → wpAny P md ops (onlyN Q) (n + l.length) listed a w
  | [], listed, a, _, _, h => h
  | (i, o) :: r, listed, a, hl, hok, h => by
    simp only [List.map_cons, insOk, Bool.and_eq_true] at hok
    obtain ⟨⟨⟨hf, hr⟩, hg⟩, hok⟩ := hok
    have hi : ops[i]? = some o := hl (i, o) (by simp)
    rw [hi] at hg
    obtain ⟨v, hv, h⟩ := h
    have ih := wpAny_ins hsel r (listed.setIfInBounds i true) (a.put o.dst v) (fun p hp => hl p (by simp [hp])) hok h
    exact wpAny_inert hsel hi (by simpa using hg) (n + r.length) listed a w hv (by simpa using hr) (Region.free_spec hi hf) ih
end
def monoOkIn (dep : Nat → List Nat) (ins ord tl : List Nat) (l : List Oper) : Bool :=
  Region.noSelect l.toArray && decide (ins.length + ord.length + tl.length = l.length) && tl.all (fun i => decide (i < l.length)) && ord.all (fun i => decide (i < l.length)) && ins.all (fun i => decide (i < l.length)) &&
  insOk .any l.toArray ins (Array.replicate l.length false) &&
  frontOk .any l.toArray dep ord (setAll ins (Array.replicate l.length false)) &&
  (Region.ready .any l.toArray (setAll ord (setAll ins (Array.replicate l.length false)))).all (fun j => !ord.contains j) &&
  tailOrder .any l.toArray tl (setAll ord (setAll ins (Array.replicate l.length false))) &&
  ((List.range l.length).all fun i => ord.contains i || ins.contains i || ord.all fun j => (mark .any l.toArray (List.range i).reverse (edgesOf .any l.toArray i)).contains j)
theorem setAll_get : ∀ (ins : List Nat) (listed : Array Bool) (k : Nat), listed.getD k false = true → (setAll ins listed).getD k false = true
  | [], _, _, h => h
  | _ :: r, _, k, h => setAll_get r _ k (getD_set_true h)
theorem setAll_in : ∀ (ins : List Nat) (listed : Array Bool), (∀ i ∈ ins, i < listed.size) → ∀ i ∈ ins, (setAll ins listed).getD i false = true
  | j :: r, _, hs, i, hi => by
    rcases List.mem_cons.1 hi with rfl | hi
    · exact setAll_get r _ i (by have := hs i (by simp); simp [this])
    · exact setAll_in r _ (fun k hk => by have := hs k (by simp [hk]); simpa using this) i hi
theorem setAll_closed {md : Region.Mode} {ops : Array Oper} : ∀ (ins : List Nat) (listed : Array Bool), Closed md ops listed → insOk md ops ins listed = true → Closed md ops (setAll ins listed)
  | [], _, h, _ => h
  | i :: r, listed, h, hok => by
    simp only [insOk, Bool.and_eq_true] at hok
    exact setAll_closed r _ (h.set (by simpa using hok.1.1.2)) hok.2
theorem wp_region_in {P : Program} {id : Nat} {l : List Oper} {Q : Exit → Act → World → Prop} {a : Act} {w : World} (ins ord tl : List Nat) (G : World → Prop) (sp : Nat → Option MSpec) (dep : Nat → List Nat) (hm : P.follows .mixedOrders = true)
    (hok : monoOkIn dep ins ord tl l = true) (hG : G w.drew) (hmono : ∀ i s, sp i = some s → ∀ args v, (s.fa args v).Mono)
    (h : insWalk P (fun a => monoL P l.toArray G sp dep (fun a Fs => ∀ w', G w' → Inv w.heap.size Fs w' → wpList P l.toArray (onlyN Q) (pick l tl) a w') (ord.zip (pick l ord)) a (fun _ => none)) (ins.zip (pick l ins)) a) : (Code.region id l.toArray true).wp P Q a w := by
  simp only [monoOkIn, Bool.and_eq_true, decide_eq_true_eq, List.all_eq_true, Bool.or_eq_true, List.mem_range, List.contains_iff_mem, Bool.not_eq_true'] at hok
  obtain ⟨⟨⟨⟨⟨⟨⟨⟨⟨hsel, hlen⟩, htl⟩, hord⟩, hins⟩, hinsOk⟩, hfront⟩, hready⟩, htail⟩, hedge⟩ := hok
  have hzip := zip_pick l ord hord
  have hzipI := zip_pick l ins hins
  have key : ∀ a, monoL P l.toArray G sp dep (fun a Fs => ∀ w', G w' → Inv w.heap.size Fs w' → wpList P l.toArray (onlyN Q) (pick l tl) a w') (ord.zip (pick l ord)) a (fun _ => none) →
      wpAny P .any l.toArray (onlyN Q) (ord.length + tl.length) (setAll ins (Array.replicate l.length false)) a w.drew := by
    intro a h
    have h := monoL_list _ hzip.2 _ _ h
    rw [hzip.1] at h
    have hd := detM_list (md := .any) (P := P) (G := G) (sp := sp) (dep := dep) (Fr := fun j => ord.contains j) (ops := l.toArray) ⟨_, hG⟩ hsel _ ord (setAll ins (Array.replicate l.length false)) a (fun _ => none)
      (fun i hi => by simpa using hi) (fun j hj hc => by have := hready j hj; rw [hc] at this; cases this) hfront h
    have hfin : ∀ (n : Nat) (listed : Array Bool) (a : Act) (Fs : Nat → Option Fact), detM P .any l.toArray G sp dep (fun j => ord.contains j) (fun li a Fs => li = setAll ord (setAll ins (Array.replicate l.length false)) ∧ ∀ w', G w' → Inv w.heap.size Fs w' → wpList P l.toArray (onlyN Q) (pick l tl) a w') n listed a Fs →
        detM P .any l.toArray G sp dep (fun j => ord.contains j) (fun li a Fs => ∀ w', G w' → Inv w.heap.size Fs w' → wpAny P .any l.toArray (onlyN Q) tl.length li a w') n listed a Fs := by
      intro n
      induction n with
      | zero =>
        intro listed a Fs h
        refine ⟨h.1, fun w' hG' hI => ?_⟩
        obtain ⟨_, rfl, h2⟩ := h
        exact wpAny_tail (P := P) (md := .any) (Q := onlyN Q) (ops := l.toArray) tl (pick l tl) _ a w' (pick_spec l tl htl) htail (h2 w' hG' hI)
      | succ n ih =>
        intro listed a Fs h
        exact ⟨h.1, fun i hi him => by obtain ⟨o, ho, hs⟩ := h.2 i hi him; exact ⟨o, ho, hs.mono fun a' Fs' h' => ih _ a' Fs' h'⟩⟩
    refine detM_sound (P := P) (Q := onlyN Q) (md := .any) ins w.heap.size tl.length hmono (fun i hi hmi => ?_) ord.length _ a (fun _ => none) (setAll_in ins _ (fun i hi => by simpa using hins i hi)) (fun _ _ h => by cases h) (fun _ _ h => by cases h)
      (setAll_closed ins _ (fun k hk => by simp [Array.getElem?_replicate] at hk; split at hk <;> simp at hk) hinsOk) (hfin _ _ _ _ hd) w.drew hG
      ⟨Nat.le_refl _, fun _ => (0, 0), ⟨(fun _ _ h => by cases h), (fun _ _ _ _ _ h => by cases h)⟩⟩
    rcases hedge i (by simpa using hi) with (h1 | h1) | h1
    · exact absurd (by simpa using h1) hmi
    · exact .inl h1
    · exact .inr fun j hj => h1 j (by simpa using hj)
  have hlenI : (ins.zip (pick l ins)).length = ins.length := by rw [← List.length_map (f := Prod.fst), hzipI.1]
  have hall : wpAny P .any l.toArray (onlyN Q) ((ord.length + tl.length) + (ins.zip (pick l ins)).length) (Array.replicate l.length false) a w.drew := by
    refine wpAny_ins hsel _ _ a hzipI.2 (by rw [hzipI.1]; exact hinsOk) ?_
    rw [hzipI.1]
    have mono : ∀ (F F' : Act → Prop), (∀ a, F a → F' a) → ∀ (L : List (Nat × Oper)) a, insWalk P F L a → insWalk P F' L a := by
      intro F F' hF L
      induction L with
      | nil => intro a h; exact hF a h
      | cons p L ih => intro a h; obtain ⟨v, h1, h2⟩ := h; exact ⟨v, h1, ih _ h2⟩
    exact mono _ _ key _ a h
  refine wp_region_any hm ?_
  have e : (ord.length + tl.length) + (ins.zip (pick l ins)).length = l.toArray.size := by rw [hlenI]; simp; omega
  rw [e] at hall
  simpa using wpAny_onlyN _ _ _ _ hall
theorem ins_nil {P : Program} {F : Act → Prop} {a : Act} (h : F a) : insWalk P F [] a := h
theorem ins_step {P : Program} {F : Act → Prop} {i : Nat} {o : Oper} {r : List (Nat × Oper)} {a : Act} (v : Value) (h : ∀ w, (execOp a.eval o).run P w = .ok (.value v) w) (k : insWalk P F r (a.put o.dst v)) : insWalk P F ((i, o) :: r) a := ⟨v, h, k⟩
end Go.Proofs.Ytgmhhocpdfdplaa
