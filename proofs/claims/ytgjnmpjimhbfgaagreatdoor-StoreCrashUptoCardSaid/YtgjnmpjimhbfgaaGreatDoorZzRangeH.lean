/-
  A range over a function, by rounds that are counted: a law for the statement, and what is asked of the iterator. Over any program.
-/
import Derived.Test.YtgjnmpjimhbfgaaGreatDoorBase
import Derived.RangeFuncNested
import Derived.RangeFuncLeaves
namespace Go.Proofs.YtgjnmpjimhbfgaaGreatDoor
set_option maxRecDepth 100000
open Go.RowKit
theorem Turn.putObj {S : List Nat} {w w' : World} (h : Turn S w w') {l : Nat} (hl : l ∈ S ∨ w.heap.size ≤ l) (o : Obj) : Turn S w (w'.putObj l o) :=
 h.grown (grownBy_putObj' w' l o) (fun k hk => by cases hk; exact hl)
def Iter (P : Program) (gf : Nat) (lb : Array Value) (Arg : Nat → Array Value → World → Prop) (Mine : Nat → World → Prop) (N : Nat) (T : List Nat) : Prop :=
 ∀ (l : Nat) (J Jx : Nat → World → Prop) (W : World),
  (∀ k W1 W2, J k W1 → Turn T W1 W2 → J k W2) → (∀ k W1 W2, Jx k W1 → Turn T W1 W2 → Jx k W2) →
  (∀ k args W1, k < N → J k W1 → Mine k W1 → Arg k args W1 → YieldAt Fence.wide 2 P l args W1 fun e W' =>
   (e = .returned (.bool true) ∧ J (k + 1) W' ∧ Mine k W') ∨ (e = .returned (.bool false) ∧ Jx k W')) →
  J 0 W → Mine 0 W →
  CallsIn Fence.wide 3 P gf (#[.func (.yield l) #[] #[]] ++ lb) W fun e W' => (∃ v, e = .returned v) ∧ (J N W' ∨ ∃ k, k < N ∧ Jx k W')
def KeepsTwo (D : Nat) (W W' : World) : Prop := ∃ S, Turn S W W' ∧ D ∉ S ∧ D + 1 ∉ S
def roundEnds (D : Nat) (I : Nat → World → Prop) (Ix : Code → Nat → World → Prop) (Mine : Nat → World → Prop) (k : Nat) (W : World) : Exit → Act → World → Prop
 | .normal, _, W' => KeepsTwo D W W' ∧ I (k + 1) W' ∧ Mine k W'
 | .ret, _, W' => KeepsTwo D W W' ∧ Ix .ret k W'
 | .exit id, _, W' => KeepsTwo D W W' ∧ Ix (.exit id) k W'
 | .goto t, _, W' => KeepsTwo D W W' ∧ Ix (.goto t) k W'
 | .panic _, _, _ => False
 | .outgrown, _, _ => False
theorem wp_range {P : Program} {g : Operand} {ps : Array Tmp} {assign body : Code} {Q : Exit → Act → World → Prop} {a : Act} {w : World}
  {gf : Nat} {lb : Array Value} {Arg : Nat → Array Value → World → Prop} {Mine : Nat → World → Prop} {N : Nat} {T : List Nat}
  (hg : a.eval g = .func (.func gf) #[] lb) (eg : ∀ args w, (callFunc gf args).run P w = .ok (.enter gf args) w)
  (hit : Iter P gf lb Arg Mine N T) (hps : ∀ k args W, Arg k args W → args.size = ps.size) (hT : ∀ t ∈ T, t < w.heap.size)
  (I : Nat → World → Prop) (Ix : Code → Nat → World → Prop)
  (hI : ∀ k W1 W2 S, I k W1 → Turn S W1 W2 → (∀ t ∈ S, t ∈ T ∨ (t = w.heap.size + 1 ∧ ∃ r, W1.heap[t]? = some (.loop r))) → I k W2)
  (hIx : ∀ c k W1 W2 S, Ix c k W1 → Turn S W1 W2 → (∀ t ∈ S, t ∈ T ∨ (t = w.heap.size + 1 ∧ ∃ r, W1.heap[t]? = some (.loop r))) → Ix c k W2)
  (hM : ∀ k W1 W2, Mine k W1 → (∃ r, W1.heap[w.heap.size + 1]? = some (.loop r)) → Turn [w.heap.size + 1] W1 W2 → Mine k W2)
  (hA : ∀ k args W1 W2, Arg k args W1 → (∃ r, W1.heap[w.heap.size + 1]? = some (.loop r)) → Turn [w.heap.size + 1] W1 W2 → Arg k args W2)
  (h0 : I 0 w) (hM0 : Mine 0 w) (hM1 : ∀ W, Turn [] w W → Mine 0 w → Mine 0 W) (a₁ : Array Value → Act)
  (hassign : ∀ (l : Nat) (args : Array Value) (k : Nat) (W : World) (K : Act → World → Prop), Arg k args W → K (a₁ args) W →
   assign.wpIn (Fence.wide.inRound l) 2 P (Exit.then K (fun _ _ _ => False)) { tmps := (ps.zip args).foldl (fun t (p, v) => t.setIfInBounds p v) a.tmps, defers := [] } W)
  (hbody : ∀ (l k : Nat) (args : Array Value) (W : World), k < N → w.heap.size + 1 < W.heap.size → I k W → Mine k W → Arg k args W → body.wpIn (Fence.wide.inRound l) 2 P (roundEnds w.heap.size I Ix Mine k W) (a₁ args) W)
  (hdone : ∀ (W : World), w.heap.size + 1 < W.heap.size → I N W → W.heap[w.heap.size]? = some (.deferred (some [])) → Q .normal { a with defers := { target := .collected w.heap.size, args := #[] } :: a.defers } W)
  (hstop : ∀ (c : Code) (k : Nat) (W : World), w.heap.size + 1 < W.heap.size → k < N → Ix c k W → W.heap[w.heap.size]? = some (.deferred (some [])) → c.wp P Q { a with defers := { target := .collected w.heap.size, args := #[] } :: a.defers } W) :
  (Code.rangeFunc g ps assign body).wp P Q a w := by
 refine (wpIn_wide (n := 4)).1 (wpIn_rangeFunc ?_)
 intro fn hfn
 rw [Fence.wide_round]
 obtain ⟨rec, hrec⟩ : ∃ rec : LoopState → Option Code → Loop, rec = fun st pe => { state := st, pending := pe, fn, tmps := a.tmps, params := ps, assign, body, defers := w.heap.size } := ⟨_, rfl⟩
 obtain ⟨W1, hW1⟩ : ∃ W1, (w.alloc (.deferred (some []))).alloc (.loop (rec .ready none)) = W1 := ⟨_, rfl⟩
 have hL1 : W1.heap[w.heap.size + 1]? = some (.loop (rec .ready none)) := by
  rw [← hW1]; have := World.alloc_heap_new (w.alloc (.deferred (some []))) (.loop (rec .ready none)); rwa [World.size_alloc] at this
 have hK1 : W1.heap[w.heap.size]? = some (.deferred (some [])) := by
  rw [← hW1]; exact (Below.heap_alloc _ _ _ (by simp)).trans (World.alloc_heap_new w _)
 have hT1 : Turn [] w W1 := by rw [← hW1]; exact ((Turn.refl _ _).alloc _).alloc _
 have hI1 : I 0 W1 := hI 0 w W1 [] h0 hT1 (by simp)
 have hMine1 : Mine 0 W1 := hM1 W1 hT1 hM0
 have hTD : w.heap.size ∉ T ∧ w.heap.size + 1 ∉ T := ⟨fun h => by have := hT _ h; omega, fun h => by have := hT _ h; omega⟩
 refine ⟨w.heap.size + 1, [{ target := .collected w.heap.size, args := #[] }], W1, { target := .fn (.func gf) lb, args := #[.func (.yield (w.heap.size + 1)) #[] #[]] }, W1, gf,
  #[.func (.yield (w.heap.size + 1)) #[] #[]] ++ lb, W1, ?_, ?_, ?_, ?_, fun h => by simp [Fence.wide] at h, ?_⟩
 ·rw [← hW1, hrec]; exact run_enterLoop_outer _ _ _ _ _
 ·simp only [resolve, hg]
  simp [go_sem]
 ·intro f' hf'; exact trivial
 ·simp [invoke, go_sem, eg]
 ·refine (hit (w.heap.size + 1)
   (fun k W => I k W ∧ W.heap[w.heap.size + 1]? = some (.loop (rec .ready none)) ∧ W.heap[w.heap.size]? = some (.deferred (some [])))
   (fun k W => ∃ c, Ix c k W ∧ W.heap[w.heap.size + 1]? = some (.loop (rec .done (some c))) ∧ W.heap[w.heap.size]? = some (.deferred (some [])))
   W1 ?_ ?_ ?_ ⟨hI1, hL1, hK1⟩ hMine1).mono ?_
  ·rintro k A B ⟨hi, hl, hk⟩ ht
   have hlt : w.heap.size + 1 < A.heap.size := (Array.getElem?_eq_some_iff.1 hl).1
   exact ⟨hI k A B T hi ht (fun t h => .inl h), (ht.block _ hlt hTD.2).trans hl, (ht.block _ (by omega) hTD.1).trans hk⟩
  ·rintro k A B ⟨c, hi, hl, hk⟩ ht
   have hlt : w.heap.size + 1 < A.heap.size := (Array.getElem?_eq_some_iff.1 hl).1
   exact ⟨c, hIx c k A B T hi ht (fun t h => .inl h), (ht.block _ hlt hTD.2).trans hl, (ht.block _ (by omega) hTD.1).trans hk⟩
  ·rintro k args W hkN ⟨hi, hl, hk⟩ hmine harg
   have hlt : w.heap.size + 1 < W.heap.size := (Array.getElem?_eq_some_iff.1 hl).1
   have hy := run_yield (P := P) (args := args) hl (by rw [hrec]; exact hps k args W harg)
   rw [hrec] at hy
   refine ⟨fn, _, assign, body, hy, roundIn_of_wpIn hfn (hassign _ args k W _ harg ?_)⟩
   clear hy
   refine ⟨_, run_beginRound hl (by rw [hrec]), ?_⟩
   have hl2 : (W.putObj (w.heap.size + 1) (.loop { rec .ready none with state := .busy })).heap[w.heap.size + 1]? = some (.loop { rec .ready none with state := .busy }) := World.putObj_heap_same hlt
   have hk2 : (W.putObj (w.heap.size + 1) (.loop { rec .ready none with state := .busy })).heap[w.heap.size]? = some (.deferred (some [])) := (World.putObj_heap_other (by omega)).trans hk
   have ht2 : Turn [w.heap.size + 1] W (W.putObj (w.heap.size + 1) (.loop { rec .ready none with state := .busy })) := (Turn.refl _ W).putObj (.inl (by simp)) _
   refine wpIn_mono (hbody _ k args _ hkN (by simpa using hlt) (hI _ _ _ _ hi ht2 (fun t h => .inr (by simp at h; subst h; exact ⟨rfl, _, hl⟩))) (hM _ _ _ hmine ⟨_, hl⟩ ht2) (hA _ _ _ _ harg ⟨_, hl⟩ ht2)) ?_
   have fin : ∀ (jump : Option Code) (W3 : World), KeepsTwo w.heap.size (W.putObj (w.heap.size + 1) (.loop { rec .ready none with state := .busy })) W3 →
     (Instr.endRound (w.heap.size + 1) jump).run P W3 = .ok (.bool jump.isNone) (W3.putObj (w.heap.size + 1) (.loop (rec (if jump.isNone then .ready else .done) jump))) ∧
     W3.heap[w.heap.size + 1]? = some (.loop { rec .ready none with state := .busy }) ∧
     (W3.putObj (w.heap.size + 1) (.loop (rec (if jump.isNone then .ready else .done) jump))).heap[w.heap.size + 1]? = some (.loop (rec (if jump.isNone then .ready else .done) jump)) ∧
     (W3.putObj (w.heap.size + 1) (.loop (rec (if jump.isNone then .ready else .done) jump))).heap[w.heap.size]? = some (.deferred (some [])) := fun jump W3 hk3 => by
    obtain ⟨S, ht, hs1, hs2⟩ := hk3
    have hl3 := (ht.block _ (by simpa using hlt) hs2).trans hl2
    have hk3 := (ht.block _ (by simp; omega) hs1).trans hk2
    have := run_endRound (P := P) jump hl3
    rw [hrec] at this ⊢
    exact ⟨this, by rw [hrec] at hl3; exact hl3, World.putObj_heap_same (Array.getElem?_eq_some_iff.1 hl3).1, (World.putObj_heap_other (by omega)).trans hk3⟩
   have ht4 : ∀ (W3 : World) (o : Obj), Turn [w.heap.size + 1] W3 (W3.putObj (w.heap.size + 1) o) := fun W3 o => (Turn.refl _ W3).putObj (.inl (by simp)) _
   rintro e a3 W3 hp
   cases e with
   | normal =>
    obtain ⟨hk3, hi3, hm3⟩ := hp
    obtain ⟨hr, hl3, hl4, hk4⟩ := fin none W3 hk3
    exact ⟨_, _, hr, .inl ⟨rfl, ⟨hI _ _ _ _ hi3 (ht4 _ _) (fun t h => .inr (by simp at h; subst h; exact ⟨rfl, _, hl3⟩)), hl4, hk4⟩, hM _ _ _ hm3 ⟨_, hl3⟩ (ht4 _ _)⟩⟩
   | ret =>
    obtain ⟨hk3, hi3⟩ := hp
    obtain ⟨hr, hl3, hl4, hk4⟩ := fin (some .ret) W3 hk3
    exact ⟨_, _, hr, .inr ⟨rfl, .ret, hIx _ _ _ _ _ hi3 (ht4 _ _) (fun t h => .inr (by simp at h; subst h; exact ⟨rfl, _, hl3⟩)), hl4, hk4⟩⟩
   | exit id =>
    obtain ⟨hk3, hi3⟩ := hp
    obtain ⟨hr, hl3, hl4, hk4⟩ := fin (some (.exit id)) W3 hk3
    exact ⟨_, _, hr, .inr ⟨rfl, .exit id, hIx _ _ _ _ _ hi3 (ht4 _ _) (fun t h => .inr (by simp at h; subst h; exact ⟨rfl, _, hl3⟩)), hl4, hk4⟩⟩
   | goto t =>
    obtain ⟨hk3, hi3⟩ := hp
    obtain ⟨hr, hl3, hl4, hk4⟩ := fin (some (.goto t)) W3 hk3
    exact ⟨_, _, hr, .inr ⟨rfl, .goto t, hIx _ _ _ _ _ hi3 (ht4 _ _) (fun t h => .inr (by simp at h; subst h; exact ⟨rfl, _, hl3⟩)), hl4, hk4⟩⟩
   | panic ch => exact hp.elim
   | outgrown => exact hp.elim
  ·have ht4 : ∀ (W3 : World) (o : Obj), Turn [w.heap.size + 1] W3 (W3.putObj (w.heap.size + 1) o) := fun W3 o => (Turn.refl _ W3).putObj (.inl (by simp)) _
   rintro e W2 ⟨⟨v, rfl⟩, (⟨hi, hl, hk⟩ | ⟨k, hkN, c, hi, hl, hk⟩)⟩
   ·have hlt : w.heap.size + 1 < W2.heap.size := (Array.getElem?_eq_some_iff.1 hl).1
    exact ⟨none, _, by have := run_endLoop (P := P) hl (by rw [hrec]; simp); rw [hrec] at this; exact this,
     hdone _ (by simpa using hlt) (hI _ _ _ _ hi (ht4 _ _) (fun t h => .inr (by simp at h; subst h; exact ⟨rfl, _, hl⟩))) ((World.putObj_heap_other (by omega)).trans hk)⟩
   ·have hlt : w.heap.size + 1 < W2.heap.size := (Array.getElem?_eq_some_iff.1 hl).1
    exact ⟨some c, _, by have := run_endLoop (P := P) hl (by rw [hrec]; simp); rw [hrec] at this; exact this,
     wpIn_wide.2 (hstop c k _ (by simpa using hlt) hkN (hIx _ _ _ _ _ hi (ht4 _ _) (fun t h => .inr (by simp at h; subst h; exact ⟨rfl, _, hl⟩))) ((World.putObj_heap_other (by omega)).trans hk))⟩
theorem calls_of_marks {P : Program} {f : FuncId} {fn : Func} {c : Code} {args : Array Value} {w : World} {R : Ending → World → Prop} (hf : P.funcs[f]? = some fn) (hb : fn.body = some c)
  (h : c.wp P (bodyPostM Fence.wide 3 P fn R) { tmps := args ++ Array.replicate (fn.ntmps - args.size) undef, defers := [] } w) : Calls P f args w R :=
 callsIn_wide.1 (callsIn_of_wp_marks (F := Fence.wide) (n := 3) hf hb trivial (wpIn_wide.2 h))
theorem ret_mark {P : Program} {fn : Func} {R : Ending → World → Prop} {a : Act} {W : World} {D : Nat} {v : Value} (hd : a.defers = [{ target := .collected D, args := #[] }]) (hK : W.heap[D]? = some (.deferred (some [])))
  (hres : ∀ W', (results fn a.tmps).run P W' = .ok v W') (hR : R (.returned v) (W.putObj D (.deferred none))) : bodyPostM Fence.wide 3 P fn R .ret a W := by
 show LeavesInM Fence.wide 3 P fn a.tmps R a.defers .returning W
 rw [hd]
 exact ⟨by simp, .inl ⟨_, _, rfl, run_takeDeferred hK, _, hres _, hR⟩⟩
theorem ret_bare {P : Program} {fn : Func} {R : Ending → World → Prop} {a : Act} {W : World} {v : Value} (hd : a.defers = [])
  (hres : (results fn a.tmps).run P W = .ok v W) (hR : R (.returned v) W) : bodyPostM Fence.wide 3 P fn R .ret a W := by
 show LeavesInM Fence.wide 3 P fn a.tmps R a.defers .returning W
 rw [hd]
 exact ⟨_, hres, hR⟩
theorem Turn.of_nil {G : List Nat} {w w' : World} (h : Turn [] w w') : Turn G w w' := ⟨h.os, h.tape, h.output, h.size, fun k hk _ => h.block k hk (by simp)⟩
def KeepsG (D : Nat) (G : List Nat) (B : Nat) (W W' : World) : Prop := ∃ S, Turn S W W' ∧ D ∉ S ∧ D + 1 ∉ S ∧ ∀ x ∈ S, x ∉ G ∧ B ≤ x
theorem KeepsG.two {D : Nat} {G : List Nat} {B : Nat} {W W' : World} (h : KeepsG D G B W W') : KeepsTwo D W W' := by
 obtain ⟨S, h1, h2, h3, _⟩ := h
 exact ⟨S, h1, h2, h3⟩
def IterH (P : Program) (gf : Nat) (lb : Array Value) (Arg : Nat → Array Value → World → Prop) (N : Nat) (Start : List Nat → World → Prop) (B : Nat) : Prop :=
 ∀ (l : Nat) (J : Nat → List Nat → World → Prop) (Jx : Nat → World → Prop) (W : World) (G : List Nat),
  (∀ k G1 G2 W1 W2, J k G1 W1 → Turn G1 W1 W2 → (∀ x ∈ G2, x ∈ G1 ∨ W1.heap.size ≤ x) → J k G2 W2) → (∀ k W1 W2, Jx k W1 → Turn [] W1 W2 → Jx k W2) →
  (∀ k args G1 W1, k < N → J k G1 W1 → Arg k args W1 → (∀ x ∈ G1, x < W1.heap.size) → YieldAt Fence.wide 2 P l args W1 fun e W' =>
   (e = .returned (.bool true) ∧ J (k + 1) G1 W' ∧ ∃ S, Turn S W1 W' ∧ ∀ x ∈ S, x ∉ G1 ∧ B ≤ x) ∨ (e = .returned (.bool false) ∧ Jx k W')) →
  J 0 G W → Start G W →
  CallsIn Fence.wide 3 P gf (#[.func (.yield l) #[] #[]] ++ lb) W fun e W' => (∃ v, e = .returned v) ∧ ((∃ G', J N G' W') ∨ ∃ k, k < N ∧ Jx k W')
def roundEndsH (D : Nat) (I : Nat → List Nat → World → Prop) (Ix : Code → Nat → World → Prop) (k : Nat) (G : List Nat) (B : Nat) (W : World) : Exit → Act → World → Prop
 | .normal, _, W' => KeepsG D G B W W' ∧ I (k + 1) G W'
 | .ret, _, W' => KeepsTwo D W W' ∧ Ix .ret k W'
 | .exit id, _, W' => KeepsTwo D W W' ∧ Ix (.exit id) k W'
 | .goto t, _, W' => KeepsTwo D W W' ∧ Ix (.goto t) k W'
 | .panic _, _, _ => False
 | .outgrown, _, _ => False
theorem wp_rangeH {P : Program} {g : Operand} {ps : Array Tmp} {assign body : Code} {Q : Exit → Act → World → Prop} {a : Act} {w : World}
  {gf : Nat} {lb : Array Value} {Arg : Nat → Array Value → World → Prop} {N : Nat} {Start : List Nat → World → Prop} {G : List Nat} {B : Nat}
  (hg : a.eval g = .func (.func gf) #[] lb) (eg : ∀ args w, (callFunc gf args).run P w = .ok (.enter gf args) w)
  (hit : IterH P gf lb Arg N Start B) (hB : B ≤ w.heap.size) (hps : ∀ k args W, Arg k args W → args.size = ps.size) (hG : ∀ t ∈ G, t < w.heap.size)
  (I : Nat → List Nat → World → Prop) (Ix : Code → Nat → World → Prop)
  (hIx : ∀ c k W1 W2 S, Ix c k W1 → Turn S W1 W2 → (∀ t ∈ S, t = w.heap.size + 1 ∧ ∃ r, W1.heap[t]? = some (.loop r)) → Ix c k W2)
  (hI : ∀ k G1 G2 W1 W2, I k G1 W1 → Turn G1 W1 W2 → (∀ x ∈ G2, x ∈ G1 ∨ W1.heap.size ≤ x) → I k G2 W2)
  (hIl : ∀ k G1 W1 W2, I k G1 W1 → (∃ r, W1.heap[w.heap.size + 1]? = some (.loop r)) → Turn [w.heap.size + 1] W1 W2 → I k G1 W2)
  (hA : ∀ k args W1 W2, Arg k args W1 → (∃ r, W1.heap[w.heap.size + 1]? = some (.loop r)) → Turn [w.heap.size + 1] W1 W2 → Arg k args W2)
  (h0 : I 0 G w) (hS1 : ∀ W, Turn [] w W → Start G W) (a₁ : Array Value → Act)
  (hassign : ∀ (l : Nat) (args : Array Value) (k : Nat) (W : World) (K : Act → World → Prop), Arg k args W → K (a₁ args) W →
   assign.wpIn (Fence.wide.inRound l) 2 P (Exit.then K (fun _ _ _ => False)) { tmps := (ps.zip args).foldl (fun t (p, v) => t.setIfInBounds p v) a.tmps, defers := [] } W)
  (hbody : ∀ (l k : Nat) (args : Array Value) (G1 : List Nat) (W : World), k < N → w.heap.size + 1 < W.heap.size → I k G1 W → Arg k args W → w.heap.size ∉ G1 → w.heap.size + 1 ∉ G1 → (∀ x ∈ G1, x < W.heap.size) → body.wpIn (Fence.wide.inRound l) 2 P (roundEndsH w.heap.size I Ix k G1 B W) (a₁ args) W)
  (hdone : ∀ (G1 : List Nat) (W : World), w.heap.size + 1 < W.heap.size → I N G1 W → W.heap[w.heap.size]? = some (.deferred (some [])) → Q .normal { a with defers := { target := .collected w.heap.size, args := #[] } :: a.defers } W)
  (hstop : ∀ (c : Code) (k : Nat) (W : World), w.heap.size + 1 < W.heap.size → k < N → Ix c k W → W.heap[w.heap.size]? = some (.deferred (some [])) → c.wp P Q { a with defers := { target := .collected w.heap.size, args := #[] } :: a.defers } W) :
  (Code.rangeFunc g ps assign body).wp P Q a w := by
 refine (wpIn_wide (n := 4)).1 (wpIn_rangeFunc ?_)
 intro fn hfn
 rw [Fence.wide_round]
 obtain ⟨rec, hrec⟩ : ∃ rec : LoopState → Option Code → Loop, rec = fun st pe => { state := st, pending := pe, fn, tmps := a.tmps, params := ps, assign, body, defers := w.heap.size } := ⟨_, rfl⟩
 obtain ⟨W1, hW1⟩ : ∃ W1, (w.alloc (.deferred (some []))).alloc (.loop (rec .ready none)) = W1 := ⟨_, rfl⟩
 have hL1 : W1.heap[w.heap.size + 1]? = some (.loop (rec .ready none)) := by
  rw [← hW1]; have := World.alloc_heap_new (w.alloc (.deferred (some []))) (.loop (rec .ready none)); rwa [World.size_alloc] at this
 have hK1 : W1.heap[w.heap.size]? = some (.deferred (some [])) := by
  rw [← hW1]; exact (Below.heap_alloc _ _ _ (by simp)).trans (World.alloc_heap_new w _)
 have hT1 : Turn [] w W1 := by rw [← hW1]; exact ((Turn.refl _ _).alloc _).alloc _
 have hI1 : I 0 G W1 := hI 0 G G w W1 h0 (Turn.of_nil hT1) (fun x hx => .inl hx)
 have hMine1 : Start G W1 := hS1 W1 hT1
 have hTD : w.heap.size ∉ G ∧ w.heap.size + 1 ∉ G := ⟨fun h => by have := hG _ h; omega, fun h => by have := hG _ h; omega⟩
 refine ⟨w.heap.size + 1, [{ target := .collected w.heap.size, args := #[] }], W1, { target := .fn (.func gf) lb, args := #[.func (.yield (w.heap.size + 1)) #[] #[]] }, W1, gf,
  #[.func (.yield (w.heap.size + 1)) #[] #[]] ++ lb, W1, ?_, ?_, ?_, ?_, fun h => by simp [Fence.wide] at h, ?_⟩
 ·rw [← hW1, hrec]; exact run_enterLoop_outer _ _ _ _ _
 ·simp only [resolve, hg]
  simp [go_sem]
 ·intro f' hf'; exact trivial
 ·simp [invoke, go_sem, eg]
 ·refine (hit (w.heap.size + 1)
   (fun k G1 W => I k G1 W ∧ W.heap[w.heap.size + 1]? = some (.loop (rec .ready none)) ∧ W.heap[w.heap.size]? = some (.deferred (some [])) ∧ w.heap.size ∉ G1 ∧ w.heap.size + 1 ∉ G1)
   (fun k W => ∃ c, Ix c k W ∧ W.heap[w.heap.size + 1]? = some (.loop (rec .done (some c))) ∧ W.heap[w.heap.size]? = some (.deferred (some [])))
   W1 G ?_ ?_ ?_ ⟨hI1, hL1, hK1, hTD⟩ hMine1).mono ?_
  ·rintro k G1 G2 A B ⟨hi, hl, hk, hd1, hd2⟩ ht hg2
   have hlt : w.heap.size + 1 < A.heap.size := (Array.getElem?_eq_some_iff.1 hl).1
   exact ⟨hI k G1 G2 A B hi ht hg2, (ht.block _ hlt hd2).trans hl, (ht.block _ (by omega) hd1).trans hk, fun h => by rcases hg2 _ h with h | h; exact hd1 h; omega, fun h => by rcases hg2 _ h with h | h; exact hd2 h; omega⟩
  ·rintro k A B ⟨c, hi, hl, hk⟩ ht
   have hlt : w.heap.size + 1 < A.heap.size := (Array.getElem?_eq_some_iff.1 hl).1
   exact ⟨c, hIx c k A B [] hi ht (fun t h => by cases h), (ht.block _ hlt (by simp)).trans hl, (ht.block _ (by omega) (by simp)).trans hk⟩
  ·rintro k args G1 W hkN ⟨hi, hl, hk, hd1, hd2⟩ harg hgs
   have hlt : w.heap.size + 1 < W.heap.size := (Array.getElem?_eq_some_iff.1 hl).1
   have hy := run_yield (P := P) (args := args) hl (by rw [hrec]; exact hps k args W harg)
   rw [hrec] at hy
   refine ⟨fn, _, assign, body, hy, roundIn_of_wpIn hfn (hassign _ args k W _ harg ?_)⟩
   clear hy
   refine ⟨_, run_beginRound hl (by rw [hrec]), ?_⟩
   have hl2 : (W.putObj (w.heap.size + 1) (.loop { rec .ready none with state := .busy })).heap[w.heap.size + 1]? = some (.loop { rec .ready none with state := .busy }) := World.putObj_heap_same hlt
   have hk2 : (W.putObj (w.heap.size + 1) (.loop { rec .ready none with state := .busy })).heap[w.heap.size]? = some (.deferred (some [])) := (World.putObj_heap_other (by omega)).trans hk
   have ht2 : Turn [w.heap.size + 1] W (W.putObj (w.heap.size + 1) (.loop { rec .ready none with state := .busy })) := (Turn.refl _ W).putObj (.inl (by simp)) _
   refine wpIn_mono (hbody _ k args G1 _ hkN (by simpa using hlt) (hIl _ _ _ _ hi ⟨_, hl⟩ ht2) (hA _ _ _ _ harg ⟨_, hl⟩ ht2) hd1 hd2 (fun x hx => by simpa using hgs x hx)) ?_
   have fin : ∀ (jump : Option Code) (W3 : World), KeepsTwo w.heap.size (W.putObj (w.heap.size + 1) (.loop { rec .ready none with state := .busy })) W3 →
     (Instr.endRound (w.heap.size + 1) jump).run P W3 = .ok (.bool jump.isNone) (W3.putObj (w.heap.size + 1) (.loop (rec (if jump.isNone then .ready else .done) jump))) ∧
     W3.heap[w.heap.size + 1]? = some (.loop { rec .ready none with state := .busy }) ∧
     (W3.putObj (w.heap.size + 1) (.loop (rec (if jump.isNone then .ready else .done) jump))).heap[w.heap.size + 1]? = some (.loop (rec (if jump.isNone then .ready else .done) jump)) ∧
     (W3.putObj (w.heap.size + 1) (.loop (rec (if jump.isNone then .ready else .done) jump))).heap[w.heap.size]? = some (.deferred (some [])) := fun jump W3 hk3 => by
    obtain ⟨S, ht, hs1, hs2⟩ := hk3
    have hl3 := (ht.block _ (by simpa using hlt) hs2).trans hl2
    have hk3 := (ht.block _ (by simp; omega) hs1).trans hk2
    have := run_endRound (P := P) jump hl3
    rw [hrec] at this ⊢
    exact ⟨this, by rw [hrec] at hl3; exact hl3, World.putObj_heap_same (Array.getElem?_eq_some_iff.1 hl3).1, (World.putObj_heap_other (by omega)).trans hk3⟩
   have ht4 : ∀ (W3 : World) (o : Obj), Turn [w.heap.size + 1] W3 (W3.putObj (w.heap.size + 1) o) := fun W3 o => (Turn.refl _ W3).putObj (.inl (by simp)) _
   rintro e a3 W3 hp
   cases e with
   | normal =>
    obtain ⟨hk3, hi3⟩ := hp
    obtain ⟨hr, hl3, hl4, hk4⟩ := fin none W3 hk3.two
    obtain ⟨S, hT3, hs1, hs2, hs3⟩ := hk3
    refine ⟨_, _, hr, .inl ⟨rfl, ⟨hIl _ _ _ _ hi3 ⟨_, hl3⟩ (ht4 _ _), hl4, hk4, hd1, hd2⟩, (w.heap.size + 1) :: S, ?_, ?_⟩⟩
    ·exact ((ht2.more (fun x hx => by simp at hx; simp [hx])).trans (hT3.more (fun x hx => List.mem_cons_of_mem _ hx)) (fun x hx => .inl hx)).trans ((ht4 W3 _).more (fun x hx => by simp at hx; simp [hx])) (fun x hx => .inl hx)
    ·intro x hx
     rcases List.mem_cons.1 hx with rfl | hx
     ·exact ⟨hd2, by omega⟩
     ·exact hs3 x hx
   | ret =>
    obtain ⟨hk3, hi3⟩ := hp
    obtain ⟨hr, hl3, hl4, hk4⟩ := fin (some .ret) W3 hk3
    exact ⟨_, _, hr, .inr ⟨rfl, .ret, hIx _ _ _ _ _ hi3 (ht4 _ _) (fun t h => (by simp at h; subst h; exact ⟨rfl, _, hl3⟩)), hl4, hk4⟩⟩
   | exit id =>
    obtain ⟨hk3, hi3⟩ := hp
    obtain ⟨hr, hl3, hl4, hk4⟩ := fin (some (.exit id)) W3 hk3
    exact ⟨_, _, hr, .inr ⟨rfl, .exit id, hIx _ _ _ _ _ hi3 (ht4 _ _) (fun t h => (by simp at h; subst h; exact ⟨rfl, _, hl3⟩)), hl4, hk4⟩⟩
   | goto t =>
    obtain ⟨hk3, hi3⟩ := hp
    obtain ⟨hr, hl3, hl4, hk4⟩ := fin (some (.goto t)) W3 hk3
    exact ⟨_, _, hr, .inr ⟨rfl, .goto t, hIx _ _ _ _ _ hi3 (ht4 _ _) (fun t h => (by simp at h; subst h; exact ⟨rfl, _, hl3⟩)), hl4, hk4⟩⟩
   | panic ch => exact hp.elim
   | outgrown => exact hp.elim
  ·have ht4 : ∀ (W3 : World) (o : Obj), Turn [w.heap.size + 1] W3 (W3.putObj (w.heap.size + 1) o) := fun W3 o => (Turn.refl _ W3).putObj (.inl (by simp)) _
   rintro e W2 ⟨⟨v, rfl⟩, (⟨G', hi, hl, hk, _⟩ | ⟨k, hkN, c, hi, hl, hk⟩)⟩
   ·have hlt : w.heap.size + 1 < W2.heap.size := (Array.getElem?_eq_some_iff.1 hl).1
    exact ⟨none, _, by have := run_endLoop (P := P) hl (by rw [hrec]; simp); rw [hrec] at this; exact this,
     hdone G' _ (by simpa using hlt) (hIl _ _ _ _ hi ⟨_, hl⟩ (ht4 _ _)) ((World.putObj_heap_other (by omega)).trans hk)⟩
   ·have hlt : w.heap.size + 1 < W2.heap.size := (Array.getElem?_eq_some_iff.1 hl).1
    exact ⟨some c, _, by have := run_endLoop (P := P) hl (by rw [hrec]; simp); rw [hrec] at this; exact this,
     wpIn_wide.2 (hstop c k _ (by simpa using hlt) hkN (hIx _ _ _ _ _ hi (ht4 _ _) (fun t h => (by simp at h; subst h; exact ⟨rfl, _, hl⟩))) ((World.putObj_heap_other (by omega)).trans hk))⟩
end Go.Proofs.YtgjnmpjimhbfgaaGreatDoor
