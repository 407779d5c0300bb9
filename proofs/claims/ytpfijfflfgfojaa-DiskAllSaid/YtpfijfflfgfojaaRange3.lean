/-
  A range over a function whose round's variables are made in memory ahead of the round.
-/
import Derived.Test.YtpfijfflfgfojaaRange
namespace Go.Proofs.Ytpfijfflfgfojaa
open Go.RowKit

/-- The statement 'for .. := range g { .. }'. D: the heap's size where it begins: the blocks of book-keeping are D and D + 1. -/
theorem wp_rangeB {P : Program} {g : Operand} {ps : Array Tmp} {assign body : Code} {Q : Exit → Act → World → Prop} {a : Act} {w : World}
    {gf : Nat} {lb : Array Value} {Arg : Nat → Array Value → World → Prop} {Mine : Nat → World → Prop} {N : Nat} {T : List Nat}
    (hg : a.eval g = .func (.func gf) #[] lb) (eg : ∀ args w, (callFunc gf args).run P w = .ok (.enter gf args) w)
    (hit : Iter P gf lb Arg Mine N T) (hps : ∀ k args W, Arg k args W → args.size = ps.size) (hT : ∀ t ∈ T, t < w.heap.size)
    (I : Nat → World → Prop) (Ix : Code → Nat → World → Prop)
    (hI : ∀ k W1 W2 S, I k W1 → Turn S W1 W2 → (∀ t ∈ S, t ∈ T ∨ (t = w.heap.size + 1 ∧ ∃ r, W1.heap[t]? = some (.loop r))) → I k W2)
    (hIx : ∀ c k W1 W2 S, Ix c k W1 → Turn S W1 W2 → (∀ t ∈ S, t ∈ T ∨ (t = w.heap.size + 1 ∧ ∃ r, W1.heap[t]? = some (.loop r))) → Ix c k W2)
    (hM : ∀ k W1 W2, Mine k W1 → (∃ r, W1.heap[w.heap.size + 1]? = some (.loop r)) → Turn [w.heap.size + 1] W1 W2 → Mine k W2)
    (Arg' : Nat → Array Value → Act → World → Prop) (hA : ∀ k args a' W1 W2, Arg' k args a' W1 → (∃ r, W1.heap[w.heap.size + 1]? = some (.loop r)) → Turn [w.heap.size + 1] W1 W2 → Arg' k args a' W2)
    (h0 : I 0 w) (hM0 : Mine 0 w) (hM1 : ∀ W, Turn [] w W → Mine 0 w → Mine 0 W)
    (hassign : ∀ (l : Nat) (args : Array Value) (k : Nat) (W : World) (K : Act → World → Prop), k < N → w.heap.size + 1 < W.heap.size → I k W → Mine k W → Arg k args W →
      (∀ a' W', KeepsTwo w.heap.size W W' → I k W' → Mine k W' → Arg' k args a' W' → K a' W') →
      assign.wpIn (Fence.wide.inRound l) 2 P (Exit.then K (fun _ _ _ => False)) { tmps := (ps.zip args).foldl (fun t (p, v) => t.setIfInBounds p v) a.tmps, defers := [] } W)
    (hbody : ∀ (l k : Nat) (args : Array Value) (a' : Act) (W : World), k < N → w.heap.size + 1 < W.heap.size → I k W → Mine k W → Arg' k args a' W → body.wpIn (Fence.wide.inRound l) 2 P (roundEnds w.heap.size I Ix Mine k W) a' W)
    (hdone : ∀ (W : World), w.heap.size + 1 < W.heap.size → I N W → W.heap[w.heap.size]? = some (.deferred (some [])) → Q .normal { a with defers := { target := .collected w.heap.size, args := #[] } :: a.defers } W)
    (hstop : ∀ (c : Code) (k : Nat) (W : World), w.heap.size + 1 < W.heap.size → k < N → Ix c k W → W.heap[w.heap.size]? = some (.deferred (some [])) → c.wp P Q { a with defers := { target := .collected w.heap.size, args := #[] } :: a.defers } W) :
    (Code.rangeFunc g ps assign body).wp P Q a w := by
  refine (wpIn_wide (n := 4)).1 (wpIn_rangeFunc ?_)
  intro fn hfn
  rw [Fence.wide_round]
  obtain ⟨rec, hrec⟩ : ∃ rec : LoopState → Option Code → Loop, rec = fun st pe => { state := st, pending := pe, fn, tmps := a.tmps, params := ps, assign, body, defers := w.heap.size } := ⟨_, rfl⟩
  obtain ⟨W1, hW1⟩ : ∃ W1, (w.alloc (.deferred (some []))).alloc (.loop (rec .ready none)) = W1 := ⟨_, rfl⟩
  have hL1 : W1.heap[w.heap.size + 1]? = some (.loop (rec .ready none)) := by
    rw [← hW1]; have := World.alloc_heap_new (w.alloc (.deferred (some []))) (.loop (rec .ready none)); rwa [World.size_alloc] at this
  have hK1 : W1.heap[w.heap.size]? = some (.deferred (some [])) := by
    rw [← hW1]; exact (Below.heap_alloc _ _ _ (by simp)).trans (World.alloc_heap_new w _)
  have hT1 : Turn [] w W1 := by rw [← hW1]; exact ((Turn.refl _ _).alloc _).alloc _
  have hI1 : I 0 W1 := hI 0 w W1 [] h0 hT1 (by simp)
  have hMine1 : Mine 0 W1 := hM1 W1 hT1 hM0
  have hTD : w.heap.size ∉ T ∧ w.heap.size + 1 ∉ T := ⟨fun h => by have := hT _ h; omega, fun h => by have := hT _ h; omega⟩
  refine ⟨w.heap.size + 1, [{ target := .collected w.heap.size, args := #[] }], W1, { target := .fn (.func gf) lb, args := #[.func (.yield (w.heap.size + 1)) #[] #[]] }, W1, gf,
    #[.func (.yield (w.heap.size + 1)) #[] #[]] ++ lb, W1, ?_, ?_, ?_, ?_, fun h => by simp [Fence.wide] at h, ?_⟩
  · rw [← hW1, hrec]; exact run_enterLoop_outer _ _ _ _ _
  · simp only [resolve, hg]
    simp [go_sem]
  · intro f' hf'; exact trivial
  · simp [invoke, go_sem, eg]
  · refine (hit (w.heap.size + 1)
      (fun k W => I k W ∧ W.heap[w.heap.size + 1]? = some (.loop (rec .ready none)) ∧ W.heap[w.heap.size]? = some (.deferred (some [])))
      (fun k W => ∃ c, Ix c k W ∧ W.heap[w.heap.size + 1]? = some (.loop (rec .done (some c))) ∧ W.heap[w.heap.size]? = some (.deferred (some [])))
      W1 ?_ ?_ ?_ ⟨hI1, hL1, hK1⟩ hMine1).mono ?_
    · rintro k A B ⟨hi, hl, hk⟩ ht
      have hlt : w.heap.size + 1 < A.heap.size := (Array.getElem?_eq_some_iff.1 hl).1
      exact ⟨hI k A B T hi ht (fun t h => .inl h), (ht.block _ hlt hTD.2).trans hl, (ht.block _ (by omega) hTD.1).trans hk⟩
    · rintro k A B ⟨c, hi, hl, hk⟩ ht
      have hlt : w.heap.size + 1 < A.heap.size := (Array.getElem?_eq_some_iff.1 hl).1
      exact ⟨c, hIx c k A B T hi ht (fun t h => .inl h), (ht.block _ hlt hTD.2).trans hl, (ht.block _ (by omega) hTD.1).trans hk⟩
    · rintro k args W hkN ⟨hi, hl, hk⟩ hmine harg
      have hlt : w.heap.size + 1 < W.heap.size := (Array.getElem?_eq_some_iff.1 hl).1
      have hy := run_yield (P := P) (args := args) hl (by rw [hrec]; exact hps k args W harg)
      rw [hrec] at hy
      refine ⟨fn, _, assign, body, hy, roundIn_of_wpIn hfn (hassign _ args k W _ hkN hlt hi hmine harg ?_)⟩
      clear hy harg hmine
      intro a' W0 hk0 hi hmine harg
      obtain ⟨S0, ht0, hs01, hs02⟩ := hk0
      replace hl := (ht0.block _ hlt hs02).trans hl
      replace hk := (ht0.block _ (by omega) hs01).trans hk
      replace hlt := Nat.lt_of_lt_of_le hlt ht0.size
      clear ht0 hs01 hs02
      obtain ⟨W, rfl⟩ : ∃ W, W = W0 := ⟨_, rfl⟩
      refine ⟨_, run_beginRound hl (by rw [hrec]), ?_⟩
      have hl2 : (W.putObj (w.heap.size + 1) (.loop { rec .ready none with state := .busy })).heap[w.heap.size + 1]? = some (.loop { rec .ready none with state := .busy }) := World.putObj_heap_same hlt
      have hk2 : (W.putObj (w.heap.size + 1) (.loop { rec .ready none with state := .busy })).heap[w.heap.size]? = some (.deferred (some [])) := (World.putObj_heap_other (by omega)).trans hk
      have ht2 : Turn [w.heap.size + 1] W (W.putObj (w.heap.size + 1) (.loop { rec .ready none with state := .busy })) := (Turn.refl _ W).putObj (.inl (by simp)) _
      refine wpIn_mono (hbody _ k args a' _ hkN (by simpa using hlt) (hI _ _ _ _ hi ht2 (fun t h => .inr (by simp at h; subst h; exact ⟨rfl, _, hl⟩))) (hM _ _ _ hmine ⟨_, hl⟩ ht2) (hA _ _ _ _ _ harg ⟨_, hl⟩ ht2)) ?_
      have fin : ∀ (jump : Option Code) (W3 : World), KeepsTwo w.heap.size (W.putObj (w.heap.size + 1) (.loop { rec .ready none with state := .busy })) W3 →
          (Instr.endRound (w.heap.size + 1) jump).run P W3 = .ok (.bool jump.isNone) (W3.putObj (w.heap.size + 1) (.loop (rec (if jump.isNone then .ready else .done) jump))) ∧
          W3.heap[w.heap.size + 1]? = some (.loop { rec .ready none with state := .busy }) ∧
          (W3.putObj (w.heap.size + 1) (.loop (rec (if jump.isNone then .ready else .done) jump))).heap[w.heap.size + 1]? = some (.loop (rec (if jump.isNone then .ready else .done) jump)) ∧
          (W3.putObj (w.heap.size + 1) (.loop (rec (if jump.isNone then .ready else .done) jump))).heap[w.heap.size]? = some (.deferred (some [])) := fun jump W3 hk3 => by
        obtain ⟨S, ht, hs1, hs2⟩ := hk3
        have hl3 := (ht.block _ (by simpa using hlt) hs2).trans hl2
        have hk3 := (ht.block _ (by simp; omega) hs1).trans hk2
        have := run_endRound (P := P) jump hl3
        rw [hrec] at this ⊢
        exact ⟨this, by rw [hrec] at hl3; exact hl3, World.putObj_heap_same (Array.getElem?_eq_some_iff.1 hl3).1, (World.putObj_heap_other (by omega)).trans hk3⟩
      have ht4 : ∀ (W3 : World) (o : Obj), Turn [w.heap.size + 1] W3 (W3.putObj (w.heap.size + 1) o) := fun W3 o => (Turn.refl _ W3).putObj (.inl (by simp)) _
      rintro e a3 W3 hp
      cases e with
      | normal =>
        obtain ⟨hk3, hi3, hm3⟩ := hp
        obtain ⟨hr, hl3, hl4, hk4⟩ := fin none W3 hk3
        exact ⟨_, _, hr, .inl ⟨rfl, ⟨hI _ _ _ _ hi3 (ht4 _ _) (fun t h => .inr (by simp at h; subst h; exact ⟨rfl, _, hl3⟩)), hl4, hk4⟩, hM _ _ _ hm3 ⟨_, hl3⟩ (ht4 _ _)⟩⟩
      | ret =>
        obtain ⟨hk3, hi3⟩ := hp
        obtain ⟨hr, hl3, hl4, hk4⟩ := fin (some .ret) W3 hk3
        exact ⟨_, _, hr, .inr ⟨rfl, .ret, hIx _ _ _ _ _ hi3 (ht4 _ _) (fun t h => .inr (by simp at h; subst h; exact ⟨rfl, _, hl3⟩)), hl4, hk4⟩⟩
      | exit id =>
        obtain ⟨hk3, hi3⟩ := hp
        obtain ⟨hr, hl3, hl4, hk4⟩ := fin (some (.exit id)) W3 hk3
        exact ⟨_, _, hr, .inr ⟨rfl, .exit id, hIx _ _ _ _ _ hi3 (ht4 _ _) (fun t h => .inr (by simp at h; subst h; exact ⟨rfl, _, hl3⟩)), hl4, hk4⟩⟩
      | goto t =>
        obtain ⟨hk3, hi3⟩ := hp
        obtain ⟨hr, hl3, hl4, hk4⟩ := fin (some (.goto t)) W3 hk3
        exact ⟨_, _, hr, .inr ⟨rfl, .goto t, hIx _ _ _ _ _ hi3 (ht4 _ _) (fun t h => .inr (by simp at h; subst h; exact ⟨rfl, _, hl3⟩)), hl4, hk4⟩⟩
      | panic ch => exact hp.elim
      | outgrown => exact hp.elim
    · have ht4 : ∀ (W3 : World) (o : Obj), Turn [w.heap.size + 1] W3 (W3.putObj (w.heap.size + 1) o) := fun W3 o => (Turn.refl _ W3).putObj (.inl (by simp)) _
      rintro e W2 ⟨⟨v, rfl⟩, (⟨hi, hl, hk⟩ | ⟨k, hkN, c, hi, hl, hk⟩)⟩
      · have hlt : w.heap.size + 1 < W2.heap.size := (Array.getElem?_eq_some_iff.1 hl).1
        exact ⟨none, _, by have := run_endLoop (P := P) hl (by rw [hrec]; simp); rw [hrec] at this; exact this,
          hdone _ (by simpa using hlt) (hI _ _ _ _ hi (ht4 _ _) (fun t h => .inr (by simp at h; subst h; exact ⟨rfl, _, hl⟩))) ((World.putObj_heap_other (by omega)).trans hk)⟩
      · have hlt : w.heap.size + 1 < W2.heap.size := (Array.getElem?_eq_some_iff.1 hl).1
        exact ⟨some c, _, by have := run_endLoop (P := P) hl (by rw [hrec]; simp); rw [hrec] at this; exact this,
          wpIn_wide.2 (hstop c k _ (by simpa using hlt) hkN (hIx _ _ _ _ _ hi (ht4 _ _) (fun t h => .inr (by simp at h; subst h; exact ⟨rfl, _, hl⟩))) ((World.putObj_heap_other (by omega)).trans hk))⟩

/-- The same: the round's variables lie in slots and in a block g. -/
theorem wp_rangeC (F : Array Value → Array Value → Nat → Array Value) (V : Nat → Array Value → Nat → World → Prop) {P : Program} {g : Operand} {ps : Array Tmp} {assign body : Code} {Q : Exit → Act → World → Prop} {a : Act} {w : World}
    {gf : Nat} {lb : Array Value} {Arg : Nat → Array Value → World → Prop} {Mine : Nat → World → Prop} {N : Nat} {T : List Nat}
    (hg : a.eval g = .func (.func gf) #[] lb) (eg : ∀ args w, (callFunc gf args).run P w = .ok (.enter gf args) w)
    (hit : Iter P gf lb Arg Mine N T) (hps : ∀ k args W, Arg k args W → args.size = ps.size) (hT : ∀ t ∈ T, t < w.heap.size)
    (I : Nat → World → Prop) (Ix : Code → Nat → World → Prop)
    (hI : ∀ k W1 W2 S, I k W1 → Turn S W1 W2 → (∀ t ∈ S, t ∈ T ∨ (t = w.heap.size + 1 ∧ ∃ r, W1.heap[t]? = some (.loop r))) → I k W2)
    (hIx : ∀ c k W1 W2 S, Ix c k W1 → Turn S W1 W2 → (∀ t ∈ S, t ∈ T ∨ (t = w.heap.size + 1 ∧ ∃ r, W1.heap[t]? = some (.loop r))) → Ix c k W2)
    (hM : ∀ k W1 W2, Mine k W1 → (∃ r, W1.heap[w.heap.size + 1]? = some (.loop r)) → Turn [w.heap.size + 1] W1 W2 → Mine k W2)
    (hA : ∀ k args g W1 W2, V k args g W1 → (∃ r, W1.heap[w.heap.size + 1]? = some (.loop r)) → Turn [w.heap.size + 1] W1 W2 → V k args g W2)
    (h0 : I 0 w) (hM0 : Mine 0 w) (hM1 : ∀ W, Turn [] w W → Mine 0 w → Mine 0 W)
    (hassign : ∀ (l : Nat) (args : Array Value) (k : Nat) (W : World) (K : Act → World → Prop), k < N → w.heap.size + 1 < W.heap.size → I k W → Mine k W → Arg k args W →
      (∀ g W', KeepsTwo w.heap.size W W' → I k W' → Mine k W' → V k args g W' → K { tmps := F ((ps.zip args).foldl (fun t (p, v) => t.setIfInBounds p v) a.tmps) args g, defers := [] } W') →
      assign.wpIn (Fence.wide.inRound l) 2 P (Exit.then K (fun _ _ _ => False)) { tmps := (ps.zip args).foldl (fun t (p, v) => t.setIfInBounds p v) a.tmps, defers := [] } W)
    (hbody : ∀ (l k : Nat) (args : Array Value) (g : Nat) (W : World), k < N → w.heap.size + 1 < W.heap.size → I k W → Mine k W → V k args g W → body.wpIn (Fence.wide.inRound l) 2 P (roundEnds w.heap.size I Ix Mine k W) { tmps := F ((ps.zip args).foldl (fun t (p, v) => t.setIfInBounds p v) a.tmps) args g, defers := [] } W)
    (hdone : ∀ (W : World), w.heap.size + 1 < W.heap.size → I N W → W.heap[w.heap.size]? = some (.deferred (some [])) → Q .normal { a with defers := { target := .collected w.heap.size, args := #[] } :: a.defers } W)
    (hstop : ∀ (c : Code) (k : Nat) (W : World), w.heap.size + 1 < W.heap.size → k < N → Ix c k W → W.heap[w.heap.size]? = some (.deferred (some [])) → c.wp P Q { a with defers := { target := .collected w.heap.size, args := #[] } :: a.defers } W) :
    (Code.rangeFunc g ps assign body).wp P Q a w :=
  wp_rangeB hg eg hit hps hT I Ix hI hIx hM (fun k args a' W => ∃ g, a' = { tmps := F ((ps.zip args).foldl (fun t (p, v) => t.setIfInBounds p v) a.tmps) args g, defers := [] } ∧ V k args g W)
    (fun k args a' W1 W2 ⟨g, he, hv⟩ hr ht => ⟨g, he, hA k args g W1 W2 hv hr ht⟩) h0 hM0 hM1
    (fun l args k W K hk hlt hi hm ha hK => hassign l args k W K hk hlt hi hm ha (fun g W' h1 h2 h3 h4 => hK _ W' h1 h2 h3 ⟨g, rfl, h4⟩))
    (fun l k args a' W hk hlt hi hm ⟨g, he, hv⟩ => by subst he; exact hbody l k args g W hk hlt hi hm hv) hdone hstop
end Go.Proofs.Ytpfijfflfgfojaa
