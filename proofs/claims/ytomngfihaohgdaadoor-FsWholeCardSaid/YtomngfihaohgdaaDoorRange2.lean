/-
  A range over a function of two results; what a return out of it asks. Copies of words of the hashes' seat.
-/
import Derived.Test.YtomngfihaohgdaaDoorRange
import Derived.Test.YtomngfihaohgdaaDoorReg
import Derived.Test.YtomngfihaohgdaaDoorInround
namespace Go.Proofs.YtomngfihaohgdaaDoor
open Go.RowKit

theorem wp_range2 (q0 q1 : Nat) {P : Program} {g : Operand} {ps : Array Tmp} {assign body : Code} {Q : Exit → Act → World → Prop} {a : Act} {w : World}
    {gf : Nat} {lb : Array Value} {Arg : Nat → Array Value → World → Prop} {Mine : Nat → World → Prop} {N : Nat} {T : List Nat}
    (hg : a.eval g = .func (.func gf) #[] lb) (eg : ∀ args w, (callFunc gf args).run P w = .ok (.enter gf args) w)
    (hit : Iter P gf lb Arg Mine N T) (hps : ∀ k args W, Arg k args W → args.size = ps.size) (hT : ∀ t ∈ T, t < w.heap.size)
    (I : Nat → World → Prop) (Ix : Code → Nat → World → Prop)
    (hI : ∀ k W1 W2 S, I k W1 → Turn S W1 W2 → (∀ t ∈ S, t ∈ T ∨ (t = w.heap.size + 1 ∧ ∃ r, W1.heap[t]? = some (.loop r))) → I k W2)
    (hIx : ∀ c k W1 W2 S, Ix c k W1 → Turn S W1 W2 → (∀ t ∈ S, t ∈ T ∨ (t = w.heap.size + 1 ∧ ∃ r, W1.heap[t]? = some (.loop r))) → Ix c k W2)
    (hM : ∀ k W1 W2, Mine k W1 → (∃ r, W1.heap[w.heap.size + 1]? = some (.loop r)) → Turn [w.heap.size + 1] W1 W2 → Mine k W2)
    (hA : ∀ k args W1 W2, Arg k args W1 → (∃ r, W1.heap[w.heap.size + 1]? = some (.loop r)) → Turn [w.heap.size + 1] W1 W2 → Arg k args W2)
    (h0 : I 0 w) (hM0 : Mine 0 w) (hM1 : ∀ W, Turn [] w W → Mine 0 W)
    (hassign : ∀ (l : Nat) (args : Array Value) (k : Nat) (W : World) (K : Act → World → Prop), Arg k args W →
      K { tmps := (((ps.zip args).foldl (fun t (p, v) => t.setIfInBounds p v) a.tmps).setIfInBounds q0 (args.getD 0 undef)).setIfInBounds q1 (args.getD 1 undef), defers := [] } W →
      assign.wpIn (Fence.wide.inRound l) 2 P (Exit.then K (fun _ _ _ => False)) { tmps := (ps.zip args).foldl (fun t (p, v) => t.setIfInBounds p v) a.tmps, defers := [] } W)
    (hbody : ∀ (l k : Nat) (args : Array Value) (W : World), k < N → w.heap.size + 1 < W.heap.size → I k W → Mine k W → Arg k args W →
      body.wpIn (Fence.wide.inRound l) 2 P (roundEnds w.heap.size I Ix Mine k W) { tmps := (((ps.zip args).foldl (fun t (p, v) => t.setIfInBounds p v) a.tmps).setIfInBounds q0 (args.getD 0 undef)).setIfInBounds q1 (args.getD 1 undef), defers := [] } W)
    (hdone : ∀ (W : World), w.heap.size + 1 < W.heap.size → I N W → W.heap[w.heap.size]? = some (.deferred (some [])) → Q .normal { a with defers := { target := .collected w.heap.size, args := #[] } :: a.defers } W)
    (hstop : ∀ (c : Code) (k : Nat) (W : World), w.heap.size + 1 < W.heap.size → k < N → Ix c k W → W.heap[w.heap.size]? = some (.deferred (some [])) → c.wp P Q { a with defers := { target := .collected w.heap.size, args := #[] } :: a.defers } W) :
    (Code.rangeFunc g ps assign body).wp P Q a w :=
  wp_range hg eg hit hps hT I Ix hI hIx hM hA h0 hM0 (fun W ht _ => hM1 W ht) (fun args => { tmps := (((ps.zip args).foldl (fun t (p, v) => t.setIfInBounds p v) a.tmps).setIfInBounds q0 (args.getD 0 undef)).setIfInBounds q1 (args.getD 1 undef), defers := [] })
    hassign hbody hdone hstop
theorem Old.turned {w W W' : World} {S : List Nat} (h : Old w W) (ht : Turn S W W') (hS : ∀ t ∈ S, w.heap.size ≤ t) : Old w W' :=
  ((Turn.of_below [] h).trans ht (fun x hx => .inr (hS x hx))).below
/-- The return out of the loop, where the result lies in a cell. -/
theorem ret_cell {P : Program} {fn : Func} {R : Ending → World → Prop} {a : Act} {W : World} {D : Nat} {v : Value} (hd : a.defers = [{ target := .collected D, args := #[] }]) (hK : W.heap[D]? = some (.deferred (some [])))
    (hres : (results fn a.tmps).run P (W.putObj D (.deferred none)) = .ok v (W.putObj D (.deferred none))) (hR : R (.returned v) (W.putObj D (.deferred none))) : bodyPostM Fence.wide 3 P fn R .ret a W := by
  show LeavesInM Fence.wide 3 P fn a.tmps R a.defers .returning W
  rw [hd]
  exact ⟨by simp, .inl ⟨_, _, rfl, run_takeDeferred hK, _, hres, hR⟩⟩
theorem res_cell {fn : Func} {p : Tmp} {tmps : Array Value} {w : World} {g : Nat} {x : Bool} (h : fn.results = #[.cell p 4]) (hp : tmps.getD p undef = .pointer (some ⟨g, 0, none⟩)) (hb : Blk w g 4 #[.bool x]) :
    (results fn tmps).run Tryd.prog w = .ok (.bool x) w := by
  have hc := hb.cell 0
  simp only [List.getElem?_toArray, List.getElem?_cons_zero] at hc
  have hp' : tmps[p]?.getD undef = .pointer (some ⟨g, 0, none⟩) := by simpa using hp
  simp [results, h, hp', asAddr]
  have hu := Tryd.underlying4
  go_simp
theorem region_roundOld {P : Program} {ops : Array Oper} {Q : Exit → Act → World → Prop} {n l : Nat} {id : Nat} {a : Act} {w : World} (hd : noDefer ops = true) (hL : ¬ LetsOut Q) (hm : P.follows .mixedOrders = true)
    (h : ∀ wd, Old w wd → w.heap.size = wd.heap.size → wpAnyH P .any ops Q (Old w) ops.size (Array.replicate ops.size false) a wd) : (Code.region id ops true).wpIn (Fence.wide.inRound l) n P Q a w :=
  region_round hd hL hm (Old.drew (Old.refl w)) (fun hS => h _ hS rfl)
end Go.Proofs.YtomngfihaohgdaaDoor
