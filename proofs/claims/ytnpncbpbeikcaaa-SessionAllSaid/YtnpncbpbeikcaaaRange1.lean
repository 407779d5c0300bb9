/-
  A range over a function whose argument is assigned to a slot.
-/
import Derived.Test.YtnpncbpbeikcaaaRange
namespace Go.Proofs.Ytnpncbpbeikcaaa
open Go.RowKit

theorem wp_range1g (q j : Nat) {P : Program} {g : Operand} {ps : Array Tmp} {assign body : Code} {Q : Exit → Act → World → Prop} {a : Act} {w : World}
    {gf : Nat} {lb : Array Value} {Arg : Nat → Array Value → World → Prop} {Mine : Nat → World → Prop} {N : Nat} {T : List Nat}
    (hg : a.eval g = .func (.func gf) #[] lb) (eg : ∀ args w, (callFunc gf args).run P w = .ok (.enter gf args) w)
    (hit : Iter P gf lb Arg Mine N T) (hps : ∀ k args W, Arg k args W → args.size = ps.size) (hT : ∀ t ∈ T, t < w.heap.size)
    (I : Nat → World → Prop) (Ix : Code → Nat → World → Prop)
    (hI : ∀ k W1 W2 S, I k W1 → Turn S W1 W2 → (∀ t ∈ S, t ∈ T ∨ (t = w.heap.size + 1 ∧ ∃ r, W1.heap[t]? = some (.loop r))) → I k W2)
    (hIx : ∀ c k W1 W2 S, Ix c k W1 → Turn S W1 W2 → (∀ t ∈ S, t ∈ T ∨ (t = w.heap.size + 1 ∧ ∃ r, W1.heap[t]? = some (.loop r))) → Ix c k W2)
    (hM : ∀ k W1 W2, Mine k W1 → (∃ r, W1.heap[w.heap.size + 1]? = some (.loop r)) → Turn [w.heap.size + 1] W1 W2 → Mine k W2)
    (hA : ∀ k args W1 W2, Arg k args W1 → (∃ r, W1.heap[w.heap.size + 1]? = some (.loop r)) → Turn [w.heap.size + 1] W1 W2 → Arg k args W2)
    (h0 : I 0 w) (hM0 : Mine 0 w) (hM1 : ∀ W, Turn [] w W → Mine 0 W)
    (hassign : ∀ (l : Nat) (args : Array Value) (k : Nat) (W : World) (K : Act → World → Prop), Arg k args W →
      K { tmps := ((ps.zip args).foldl (fun t (p, v) => t.setIfInBounds p v) a.tmps).setIfInBounds q (args.getD j undef), defers := [] } W →
      assign.wpIn (Fence.wide.inRound l) 2 P (Exit.then K (fun _ _ _ => False)) { tmps := (ps.zip args).foldl (fun t (p, v) => t.setIfInBounds p v) a.tmps, defers := [] } W)
    (hbody : ∀ (l k : Nat) (args : Array Value) (W : World), k < N → w.heap.size + 1 < W.heap.size → I k W → Mine k W → Arg k args W →
      body.wpIn (Fence.wide.inRound l) 2 P (roundEnds w.heap.size I Ix Mine k W) { tmps := ((ps.zip args).foldl (fun t (p, v) => t.setIfInBounds p v) a.tmps).setIfInBounds q (args.getD j undef), defers := [] } W)
    (hdone : ∀ (W : World), w.heap.size + 1 < W.heap.size → I N W → W.heap[w.heap.size]? = some (.deferred (some [])) → Q .normal { a with defers := { target := .collected w.heap.size, args := #[] } :: a.defers } W)
    (hstop : ∀ (c : Code) (k : Nat) (W : World), w.heap.size + 1 < W.heap.size → k < N → Ix c k W → W.heap[w.heap.size]? = some (.deferred (some [])) → c.wp P Q { a with defers := { target := .collected w.heap.size, args := #[] } :: a.defers } W) :
    (Code.rangeFunc g ps assign body).wp P Q a w :=
  wp_range hg eg hit hps hT I Ix hI hIx hM hA h0 hM0 (fun W ht _ => hM1 W ht) (fun args => { tmps := ((ps.zip args).foldl (fun t (p, v) => t.setIfInBounds p v) a.tmps).setIfInBounds q (args.getD j undef), defers := [] })
    hassign hbody hdone hstop
end Go.Proofs.Ytnpncbpbeikcaaa
