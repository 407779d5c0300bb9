/-
  A range over a function, by rounds that are counted: a law for the statement, and what is asked of the iterator. Over any program.
-/
import Derived.Test.YtdgjjmaiibafhaaDoorBase
import Derived.RangeFuncNested
import Derived.RangeFuncLeaves
namespace Go.Proofs.YtdgjjmaiibafhaaDoor
open Go.RowKit

theorem Turn.putObj {S : List Nat} {w w' : World} (h : Turn S w w') {l : Nat} (hl : l ∈ S ∨ w.heap.size ≤ l) (o : Obj) : Turn S w (w'.putObj l o) :=
  h.grown (grownBy_putObj' w' l o) (fun k hk => by cases hk; exact hl)

/-- WHAT AN ITERATOR DOES, called with a round's function: at most N rounds, the k-th with arguments of which Arg is true; J is the caller's word between two rounds, Jx when a round has said 'no more'; Mine is what the iterator itself
needs of memory; T are the blocks that it writes. -/
def Iter (P : Program) (gf : Nat) (lb : Array Value) (Arg : Nat → Array Value → World → Prop) (Mine : Nat → World → Prop) (N : Nat) (T : List Nat) : Prop :=
  ∀ (l : Nat) (J Jx : Nat → World → Prop) (W : World),
    (∀ k W1 W2, J k W1 → Turn T W1 W2 → J k W2) → (∀ k W1 W2, Jx k W1 → Turn T W1 W2 → Jx k W2) →
    (∀ k args W1, k < N → J k W1 → Mine k W1 → Arg k args W1 → YieldAt Fence.wide 2 P l args W1 fun e W' =>
      (e = .returned (.bool true) ∧ J (k + 1) W' ∧ Mine k W') ∨ (e = .returned (.bool false) ∧ Jx k W')) →
    J 0 W → Mine 0 W →
    CallsIn Fence.wide 3 P gf (#[.func (.yield l) #[] #[]] ++ lb) W fun e W' => (∃ v, e = .returned v) ∧ (J N W' ∨ ∃ k, k < N ∧ Jx k W')

/-- What the body of a round keeps: the two blocks of book-keeping. -/
def KeepsTwo (D : Nat) (W W' : World) : Prop := ∃ S, Turn S W W' ∧ D ∉ S ∧ D + 1 ∉ S

/-- How the body of the k-th round may be left. -/
def roundEnds (D : Nat) (I : Nat → World → Prop) (Ix : Code → Nat → World → Prop) (Mine : Nat → World → Prop) (k : Nat) (W : World) : Exit → Act → World → Prop
  | .normal, _, W' => KeepsTwo D W W' ∧ I (k + 1) W' ∧ Mine k W'
  | .ret, _, W' => KeepsTwo D W W' ∧ Ix .ret k W'
  | .exit id, _, W' => KeepsTwo D W W' ∧ Ix (.exit id) k W'
  | .goto t, _, W' => KeepsTwo D W W' ∧ Ix (.goto t) k W'
  | .panic _, _, _ => False
  | .outgrown, _, _ => False

/-- The statement 'for .. := range g { .. }'. D: the heap's size where it begins: the blocks of book-keeping are D and D + 1. -/
theorem wp_range {P : Program} {g : Operand} {ps : Array Tmp} {assign body : Code} {Q : Exit → Act → World → Prop} {a : Act} {w : World}
    {gf : Nat} {lb : Array Value} {Arg : Nat → Array Value → World → Prop} {Mine : Nat → World → Prop} {N : Nat} {T : List Nat}
    (hg : a.eval g = .func (.func gf) #[] lb) (eg : ∀ args w, (callFunc gf args).run P w = .ok (.enter gf args) w)
    (hit : Iter P gf lb Arg Mine N T) (hps : ∀ k args W, Arg k args W → args.size = ps.size) (hT : ∀ t ∈ T, t < w.heap.size)
    (I : Nat → World → Prop) (Ix : Code → Nat → World → Prop)
    (hI : ∀ k W1 W2 S, I k W1 → Turn S W1 W2 → (∀ t ∈ S, t ∈ T ∨ (t = w.heap.size + 1 ∧ ∃ r, W1.heap[t]? = some (.loop r))) → I k W2)
    (hIx : ∀ c k W1 W2 S, Ix c k W1 → Turn S W1 W2 → (∀ t ∈ S, t ∈ T ∨ (t = w.heap.size + 1 ∧ ∃ r, W1.heap[t]? = some (.loop r))) → Ix c k W2)
    (hM : ∀ k W1 W2, Mine k W1 → (∃ r, W1.heap[w.heap.size + 1]? = some (.loop r)) → Turn [w.heap.size + 1] W1 W2 → Mine k W2)
    (hA : ∀ k args W1 W2, Arg k args W1 → (∃ r, W1.heap[w.heap.size + 1]? = some (.loop r)) → Turn [w.heap.size + 1] W1 W2 → Arg k args W2)
    (h0 : I 0 w) (hM0 : Mine 0 w) (hM1 : ∀ W, Turn [] w W → Mine 0 w → Mine 0 W) (a₁ : Array Value → Act)
    (hassign : ∀ (l : Nat) (args : Array Value) (k : Nat) (W : World) (K : Act → World → Prop), Arg k args W → K (a₁ args) W →
      assign.wpIn (Fence.wide.inRound l) 2 P (Exit.then K (fun _ _ _ => False)) { tmps := (ps.zip args).foldl (fun t (p, v) => t.setIfInBounds p v) a.tmps, defers := [] } W)
    (hbody : ∀ (l k : Nat) (args : Array Value) (W : World), k < N → w.heap.size + 1 < W.heap.size → I k W → Mine k W → Arg k args W → body.wpIn (Fence.wide.inRound l) 2 P (roundEnds w.heap.size I Ix Mine k W) (a₁ args) W)
    (hdone : ∀ (W : World), w.heap.size + 1 < W.heap.size → I N W → W.heap[w.heap.size]? = some (.deferred (some [])) → Q .normal { a with defers := { target := .collected w.heap.size, args := #[] } :: a.defers } W)
    (hstop : ∀ (c : Code) (k : Nat) (W : World), w.heap.size + 1 < W.heap.size → k < N → Ix c k W → W.heap[w.heap.size]? = some (.deferred (some [])) → c.wp P Q { a with defers := { target := .collected w.heap.size, args := #[] } :: a.defers } W) :
    (Code.rangeFunc g ps assign body).wp P Q a w := by
  refine (wpIn_wide (n := 4)).1 (wpIn_rangeFunc ?_)
  intro fn hfn
  rw [Fence.wide_round]
  obtain ⟨rec, hrec⟩ : ∃ rec : LoopState → Option Code → Loop, rec = fun st pe => { state := st, pending := pe, fn, tmps := a.tmps, params := ps, assign, body, defers := w.heap.size } := ⟨_, rfl⟩
  obtain ⟨W1, hW1⟩ : ∃ W1, (w.alloc (.deferred (some []))).alloc (.loop (rec .ready none)) = W1 := ⟨_, rfl⟩
  have hL1 : W1.heap[w.heap.size + 1]? = some (.loop (rec .ready none)) := by
    rw [← hW1]; have := World.alloc_heap_new (w.alloc (.deferred (some []))) (.loop (rec .ready none)); rwa [World.size_alloc] at this
  have hK1 : W1.heap[w.heap.size]? = some (.deferred (some [])) := by
    rw [← hW1]; exact (Below.heap_alloc _ _ _ (by simp)).trans (World.alloc_heap_new w _)
  have hT1 : Turn [] w W1 := by rw [← hW1]; exact ((Turn.refl _ _).alloc _).alloc _
  have hI1 : I 0 W1 := hI 0 w W1 [] h0 hT1 (by simp)
  have hMine1 : Mine 0 W1 := hM1 W1 hT1 hM0
  have hTD : w.heap.size ∉ T ∧ w.heap.size + 1 ∉ T := ⟨fun h => by have := hT _ h; omega, fun h => by have := hT _ h; omega⟩
  refine ⟨w.heap.size + 1, [{ target := .collected w.heap.size, args := #[] }], W1, { target := .fn (.func gf) lb, args := #[.func (.yield (w.heap.size + 1)) #[] #[]] }, W1, gf,
    #[.func (.yield (w.heap.size + 1)) #[] #[]] ++ lb, W1, ?_, ?_, ?_, ?_, fun h => by simp [Fence.wide] at h, ?_⟩
  · rw [← hW1, hrec]; exact run_enterLoop_outer _ _ _ _ _
  · simp only [resolve, hg]
    simp [go_sem]
  · intro f' hf'; exact trivial
  · simp [invoke, go_sem, eg]
  · refine (hit (w.heap.size + 1)
      (fun k W => I k W ∧ W.heap[w.heap.size + 1]? = some (.loop (rec .ready none)) ∧ W.heap[w.heap.size]? = some (.deferred (some [])))
      (fun k W => ∃ c, Ix c k W ∧ W.heap[w.heap.size + 1]? = some (.loop (rec .done (some c))) ∧ W.heap[w.heap.size]? = some (.deferred (some [])))
      W1 ?_ ?_ ?_ ⟨hI1, hL1, hK1⟩ hMine1).mono ?_
    · rintro k A B ⟨hi, hl, hk⟩ ht
      have hlt : w.heap.size + 1 < A.heap.size := (Array.getElem?_eq_some_iff.1 hl).1
      exact ⟨hI k A B T hi ht (fun t h => .inl h), (ht.block _ hlt hTD.2).trans hl, (ht.block _ (by omega) hTD.1).trans hk⟩
    · rintro k A B ⟨c, hi, hl, hk⟩ ht
      have hlt : w.heap.size + 1 < A.heap.size := (Array.getElem?_eq_some_iff.1 hl).1
      exact ⟨c, hIx c k A B T hi ht (fun t h => .inl h), (ht.block _ hlt hTD.2).trans hl, (ht.block _ (by omega) hTD.1).trans hk⟩
    · rintro k args W hkN ⟨hi, hl, hk⟩ hmine harg
      have hlt : w.heap.size + 1 < W.heap.size := (Array.getElem?_eq_some_iff.1 hl).1
      have hy := run_yield (P := P) (args := args) hl (by rw [hrec]; exact hps k args W harg)
      rw [hrec] at hy
      refine ⟨fn, _, assign, body, hy, roundIn_of_wpIn hfn (hassign _ args k W _ harg ?_)⟩
      clear hy
      refine ⟨_, run_beginRound hl (by rw [hrec]), ?_⟩
      have hl2 : (W.putObj (w.heap.size + 1) (.loop { rec .ready none with state := .busy })).heap[w.heap.size + 1]? = some (.loop { rec .ready none with state := .busy }) := World.putObj_heap_same hlt
      have hk2 : (W.putObj (w.heap.size + 1) (.loop { rec .ready none with state := .busy })).heap[w.heap.size]? = some (.deferred (some [])) := (World.putObj_heap_other (by omega)).trans hk
      have ht2 : Turn [w.heap.size + 1] W (W.putObj (w.heap.size + 1) (.loop { rec .ready none with state := .busy })) := (Turn.refl _ W).putObj (.inl (by simp)) _
      refine wpIn_mono (hbody _ k args _ hkN (by simpa using hlt) (hI _ _ _ _ hi ht2 (fun t h => .inr (by simp at h; subst h; exact ⟨rfl, _, hl⟩))) (hM _ _ _ hmine ⟨_, hl⟩ ht2) (hA _ _ _ _ harg ⟨_, hl⟩ ht2)) ?_
      have fin : ∀ (jump : Option Code) (W3 : World), KeepsTwo w.heap.size (W.putObj (w.heap.size + 1) (.loop { rec .ready none with state := .busy })) W3 →
          (Instr.endRound (w.heap.size + 1) jump).run P W3 = .ok (.bool jump.isNone) (W3.putObj (w.heap.size + 1) (.loop (rec (if jump.isNone then .ready else .done) jump))) ∧
          W3.heap[w.heap.size + 1]? = some (.loop { rec .ready none with state := .busy }) ∧
          (W3.putObj (w.heap.size + 1) (.loop (rec (if jump.isNone then .ready else .done) jump))).heap[w.heap.size + 1]? = some (.loop (rec (if jump.isNone then .ready else .done) jump)) ∧
          (W3.putObj (w.heap.size + 1) (.loop (rec (if jump.isNone then .ready else .done) jump))).heap[w.heap.size]? = some (.deferred (some [])) := fun jump W3 hk3 => by
        obtain ⟨S, ht, hs1, hs2⟩ := hk3
        have hl3 := (ht.block _ (by simpa using hlt) hs2).trans hl2
        have hk3 := (ht.block _ (by simp; omega) hs1).trans hk2
        have := run_endRound (P := P) jump hl3
        rw [hrec] at this ⊢
        exact ⟨this, by rw [hrec] at hl3; exact hl3, World.putObj_heap_same (Array.getElem?_eq_some_iff.1 hl3).1, (World.putObj_heap_other (by omega)).trans hk3⟩
      have ht4 : ∀ (W3 : World) (o : Obj), Turn [w.heap.size + 1] W3 (W3.putObj (w.heap.size + 1) o) := fun W3 o => (Turn.refl _ W3).putObj (.inl (by simp)) _
      rintro e a3 W3 hp
      cases e with
      | normal =>
        obtain ⟨hk3, hi3, hm3⟩ := hp
        obtain ⟨hr, hl3, hl4, hk4⟩ := fin none W3 hk3
        exact ⟨_, _, hr, .inl ⟨rfl, ⟨hI _ _ _ _ hi3 (ht4 _ _) (fun t h => .inr (by simp at h; subst h; exact ⟨rfl, _, hl3⟩)), hl4, hk4⟩, hM _ _ _ hm3 ⟨_, hl3⟩ (ht4 _ _)⟩⟩
      | ret =>
        obtain ⟨hk3, hi3⟩ := hp
        obtain ⟨hr, hl3, hl4, hk4⟩ := fin (some .ret) W3 hk3
        exact ⟨_, _, hr, .inr ⟨rfl, .ret, hIx _ _ _ _ _ hi3 (ht4 _ _) (fun t h => .inr (by simp at h; subst h; exact ⟨rfl, _, hl3⟩)), hl4, hk4⟩⟩
      | exit id =>
        obtain ⟨hk3, hi3⟩ := hp
        obtain ⟨hr, hl3, hl4, hk4⟩ := fin (some (.exit id)) W3 hk3
        exact ⟨_, _, hr, .inr ⟨rfl, .exit id, hIx _ _ _ _ _ hi3 (ht4 _ _) (fun t h => .inr (by simp at h; subst h; exact ⟨rfl, _, hl3⟩)), hl4, hk4⟩⟩
      | goto t =>
        obtain ⟨hk3, hi3⟩ := hp
        obtain ⟨hr, hl3, hl4, hk4⟩ := fin (some (.goto t)) W3 hk3
        exact ⟨_, _, hr, .inr ⟨rfl, .goto t, hIx _ _ _ _ _ hi3 (ht4 _ _) (fun t h => .inr (by simp at h; subst h; exact ⟨rfl, _, hl3⟩)), hl4, hk4⟩⟩
      | panic ch => exact hp.elim
      | outgrown => exact hp.elim
    · have ht4 : ∀ (W3 : World) (o : Obj), Turn [w.heap.size + 1] W3 (W3.putObj (w.heap.size + 1) o) := fun W3 o => (Turn.refl _ W3).putObj (.inl (by simp)) _
      rintro e W2 ⟨⟨v, rfl⟩, (⟨hi, hl, hk⟩ | ⟨k, hkN, c, hi, hl, hk⟩)⟩
      · have hlt : w.heap.size + 1 < W2.heap.size := (Array.getElem?_eq_some_iff.1 hl).1
        exact ⟨none, _, by have := run_endLoop (P := P) hl (by rw [hrec]; simp); rw [hrec] at this; exact this,
          hdone _ (by simpa using hlt) (hI _ _ _ _ hi (ht4 _ _) (fun t h => .inr (by simp at h; subst h; exact ⟨rfl, _, hl⟩))) ((World.putObj_heap_other (by omega)).trans hk)⟩
      · have hlt : w.heap.size + 1 < W2.heap.size := (Array.getElem?_eq_some_iff.1 hl).1
        exact ⟨some c, _, by have := run_endLoop (P := P) hl (by rw [hrec]; simp); rw [hrec] at this; exact this,
          wpIn_wide.2 (hstop c k _ (by simpa using hlt) hkN (hIx _ _ _ _ _ hi (ht4 _ _) (fun t h => .inr (by simp at h; subst h; exact ⟨rfl, _, hl⟩))) ((World.putObj_heap_other (by omega)).trans hk))⟩

/-- The same, where nothing is assigned ahead of a round's body. -/
theorem wp_range0 {P : Program} {g : Operand} {ps : Array Tmp} {body : Code} {Q : Exit → Act → World → Prop} {a : Act} {w : World}
    {gf : Nat} {lb : Array Value} {Arg : Nat → Array Value → World → Prop} {Mine : Nat → World → Prop} {N : Nat} {T : List Nat}
    (hg : a.eval g = .func (.func gf) #[] lb) (eg : ∀ args w, (callFunc gf args).run P w = .ok (.enter gf args) w)
    (hit : Iter P gf lb Arg Mine N T) (hps : ∀ k args W, Arg k args W → args.size = ps.size) (hT : ∀ t ∈ T, t < w.heap.size)
    (I : Nat → World → Prop) (Ix : Code → Nat → World → Prop)
    (hI : ∀ k W1 W2 S, I k W1 → Turn S W1 W2 → (∀ t ∈ S, t ∈ T ∨ (t = w.heap.size + 1 ∧ ∃ r, W1.heap[t]? = some (.loop r))) → I k W2)
    (hIx : ∀ c k W1 W2 S, Ix c k W1 → Turn S W1 W2 → (∀ t ∈ S, t ∈ T ∨ (t = w.heap.size + 1 ∧ ∃ r, W1.heap[t]? = some (.loop r))) → Ix c k W2)
    (hM : ∀ k W1 W2, Mine k W1 → (∃ r, W1.heap[w.heap.size + 1]? = some (.loop r)) → Turn [w.heap.size + 1] W1 W2 → Mine k W2)
    (hA : ∀ k args W1 W2, Arg k args W1 → (∃ r, W1.heap[w.heap.size + 1]? = some (.loop r)) → Turn [w.heap.size + 1] W1 W2 → Arg k args W2)
    (h0 : I 0 w) (hM0 : Mine 0 w) (hM1 : ∀ W, Turn [] w W → Mine 0 W)
    (hbody : ∀ (l k : Nat) (args : Array Value) (W : World), k < N → w.heap.size + 1 < W.heap.size → I k W → Mine k W → Arg k args W →
      body.wpIn (Fence.wide.inRound l) 2 P (roundEnds w.heap.size I Ix Mine k W) { tmps := (ps.zip args).foldl (fun t (p, v) => t.setIfInBounds p v) a.tmps, defers := [] } W)
    (hdone : ∀ (W : World), w.heap.size + 1 < W.heap.size → I N W → W.heap[w.heap.size]? = some (.deferred (some [])) → Q .normal { a with defers := { target := .collected w.heap.size, args := #[] } :: a.defers } W)
    (hstop : ∀ (c : Code) (k : Nat) (W : World), w.heap.size + 1 < W.heap.size → k < N → Ix c k W → W.heap[w.heap.size]? = some (.deferred (some [])) → c.wp P Q { a with defers := { target := .collected w.heap.size, args := #[] } :: a.defers } W) :
    (Code.rangeFunc g ps .skip body).wp P Q a w :=
  wp_range hg eg hit hps hT I Ix hI hIx hM hA h0 hM0 (fun W ht _ => hM1 W ht) (fun args => { tmps := (ps.zip args).foldl (fun t (p, v) => t.setIfInBounds p v) a.tmps, defers := [] })
    (fun _ _ _ _ _ _ hK => wpIn_skip hK) hbody hdone hstop

/-- A function's contract from its body, where the body holds a range over a function. -/
theorem calls_of_marks {P : Program} {f : FuncId} {fn : Func} {c : Code} {args : Array Value} {w : World} {R : Ending → World → Prop} (hf : P.funcs[f]? = some fn) (hb : fn.body = some c)
    (h : c.wp P (bodyPostM Fence.wide 3 P fn R) { tmps := args ++ Array.replicate (fn.ntmps - args.size) undef, defers := [] } w) : Calls P f args w R :=
  callsIn_wide.1 (callsIn_of_wp_marks (F := Fence.wide) (n := 3) hf hb trivial (wpIn_wide.2 h))

/-- Its return, with the mark. -/
theorem ret_mark {P : Program} {fn : Func} {R : Ending → World → Prop} {a : Act} {W : World} {D : Nat} {v : Value} (hd : a.defers = [{ target := .collected D, args := #[] }]) (hK : W.heap[D]? = some (.deferred (some [])))
    (hres : ∀ W', (results fn a.tmps).run P W' = .ok v W') (hR : R (.returned v) (W.putObj D (.deferred none))) : bodyPostM Fence.wide 3 P fn R .ret a W := by
  show LeavesInM Fence.wide 3 P fn a.tmps R a.defers .returning W
  rw [hd]
  exact ⟨by simp, .inl ⟨_, _, rfl, run_takeDeferred hK, _, hres _, hR⟩⟩
/-- Its return, ahead of the loop. -/
theorem ret_bare {P : Program} {fn : Func} {R : Ending → World → Prop} {a : Act} {W : World} {v : Value} (hd : a.defers = [])
    (hres : (results fn a.tmps).run P W = .ok v W) (hR : R (.returned v) W) : bodyPostM Fence.wide 3 P fn R .ret a W := by
  show LeavesInM Fence.wide 3 P fn a.tmps R a.defers .returning W
  rw [hd]
  exact ⟨_, hres, hR⟩
end Go.Proofs.YtdgjjmaiibafhaaDoor
