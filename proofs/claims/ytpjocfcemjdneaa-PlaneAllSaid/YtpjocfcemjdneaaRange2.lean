/- A range over a function whose loop variables lie in boxes that each round makes anew, whatever they are (X); the relation that a round keeps from block M on. Over any program. -/
import Derived.Test.YtpjocfcemjdneaaRange
namespace Go.Proofs.Ytpjocfcemjdneaa
open Go.RowKit Go.Shelf
theorem wp_rangeFunc_x {α : Type} {P : Program} {n : Nat} {g : Operand} {ps : Array Tmp} {assign body : Code} {Q : Exit → Act → World → Prop} {a : Act} {w : World} (M : Nat) (X : Array Value → α → Act → World → Prop) (hX : ∀ t x a' W W', X t x a' W → CellsOf W W' → X t x a' W')
    (h1 : 1 ≤ n) {gf : Nat} {lb : Array Value} (hg : a.eval g = .func (.func gf) #[] lb) (eg : ∀ args w, (callFunc gf args).run P w = .ok (.enter gf args) w)
    {encs : α → Array Value} {S Sp : List α → Prop} {N : Nat} (hseq : SeqStopsK Fence.wide (n - 1) P gf lb encs (KeepC M) S Sp N w) (hps : ∀ x, (encs x).size = ps.size)
    (I : List α → World → Prop) (Ix : Code → List α → World → Prop) (hI : OwnFrom w.heap.size I) (hIx : ∀ c, OwnFrom w.heap.size (Ix c)) (h0 : I [] w)
    (hassign : ∀ (l : Nat) (pre : List α) (x : α) (W : World) (K : Act → World → Prop), I pre W → (∀ a' W', Below W.heap.size W W' → I pre W' → X a.tmps x a' W' → K a' W') →
      assign.wpIn (Fence.wide.inRound l) (n - 1 - 1) P (Exit.then K (fun _ _ _ => False)) { tmps := (ps.zip (encs x)).foldl (fun t (p, v) => t.setIfInBounds p v) a.tmps, defers := [] } W)
    (hbody : ∀ (l : Nat) (pre : List α) (x : α) (a' : Act) (W : World), w.heap.size ≤ l → I pre W → X a.tmps x a' W → pre.length < N → body.wpIn (Fence.wide.inRound l) (n - 1 - 1) P (ownPostG w.heap.size (KeepC M) I Ix (pre ++ [x]) W) a' W)
    (hdone : ∀ (D : Nat) (xs : List α) (W : World), w.heap.size ≤ D → S xs → I xs W → W.heap[D]? = some (.deferred (some [])) → Q .normal { a with defers := { target := .collected D, args := #[] } :: a.defers } W)
    (hstop : ∀ (D : Nat) (c : Code) (pre : List α) (W : World), w.heap.size ≤ D → Sp pre → Ix c pre W → W.heap[D]? = some (.deferred (some [])) → c.wp P Q { a with defers := { target := .collected D, args := #[] } :: a.defers } W) :
    (Code.rangeFunc g ps assign body).wp P Q a w :=
  (wpIn_wide (n := n)).1 (wpIn_rangeFunc_ownH (F := Fence.wide) rfl h1 hg trivial eg hseq keepC_t keepC_b (Below.refl _ _) hps I Ix hI hIx h0 (X a.tmps)
    (fun x a' _ W W' _ hs hg hr => hX _ x a' W W' hs (CellsOf.of hg (fun r e => (hr r e).2)))
    (fun l pre x W K hi hK => hassign l pre x W K hi (fun a' W' hb hI' hx => hK a' W' (KeepsFrom.of_below hb) (KeepC.below hb) hI' hx))
    (fun l pre x a' W hl _ hi hx hlt => hbody l pre x a' W hl hi hx hlt)
    hdone (fun D c pre W h1 h2 h3 h4 => wpIn_wide.2 (hstop D c pre W h1 h2 h3 h4)))
end Go.Proofs.Ytpjocfcemjdneaa
