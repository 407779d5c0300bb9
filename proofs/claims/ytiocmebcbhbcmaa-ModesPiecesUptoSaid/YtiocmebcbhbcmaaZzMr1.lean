/-
  Modes: the iterator over parts that is handed in.
  A range over a function whose own blocks grow: what the iterator owns is told at every round. Over any program.
  Modes, the document's answer: Param, May.
-/
import Derived.Test.YtiocmebcbhbcmaaZzOpenP
import Derived.Test.YtiocmebcbhbcmaaZzRange
import Derived.RangeFuncBound
import Derived.RangeFuncCalls
import Derived.OwnWalkIn
import Derived.TacticsInMore
import Derived.LoopNIn
import Derived.LoopIn
import Derived.Test.YtiocmebcbhbcmaaZzMo14
namespace Go.Proofs.Ytiocmebcbhbcmaa
set_option maxRecDepth 100000
open Go.RowKit
attribute [local go_sem] Oper.semAt_some

theorem given_any (A : Option Addr) (m c : Nat) (w : World) : Calls Try.prog 25 #[.slice A m c] w fun e w' =>
    e = .returned (.func (.func 54) #[] #[.pointer (some ⟨w.heap.size, 0, none⟩)]) ∧ w.alloc (.cells #[.slice A m c] 30) = w' := by
  go_enter Try.func25, Try.ntmps25
  go_wp2
  go_ret
  exact ⟨rfl, rfl⟩
/-- A round's argument: the part. -/
def gArg (w0 : World) (ls : List (List UInt8)) (k : Nat) (args : Array Value) (W : World) : Prop := Old w0 W ∧ ∃ Aj mj cj l, args = #[.slice Aj mj cj] ∧ ls[k]? = some l ∧ RdE w0 Aj mj cj l
/-- What the iterator needs: its box, and the parts as they came. -/
def gMine (w0 : World) (bx : Nat) (A : Option Addr) (m c : Nat) (_k : Nat) (W : World) : Prop := Blk W bx 30 #[.slice A m c] ∧ Old w0 W
set_option maxHeartbeats 1000000 in
theorem given_iter (w0 : World) (bx : Nat) (A : Option Addr) (m c : Nat) (ls : List (List UInt8)) (hr : RowsAt w0 A m ls) (hm : m ≤ maxLen) :
    Iter Try.prog 54 #[.pointer (some ⟨bx, 0, none⟩)] (gArg w0 ls) (gMine w0 bx A m c) m [] := by
  intro l' J Jx W hJ hJx hY h0 hM
  refine callsIn_of_wp Try.func54 rfl trivial ?_ rfl
  simp only [Try.ntmps54, List.size_toArray, List.length_cons, List.length_nil, Nat.reduceAdd, Nat.reduceSub, Array.replicate_succ, Array.replicate_zero, List.push_toArray, List.append_toArray, List.nil_append, List.cons_append]
  have hmi : (m : Int) ≤ 9223372036854775807 := by unfold maxLen at hm; omega
  have HM := Lib.hid (And.intro hM (And.intro h0 hr))
  clear hM h0 hr hm
  gi_wp2
  gi_loopw [3] (fun i wr => ∃ k : Nat, k ≤ m ∧ i = .int .i64 k ∧ J k wr ∧ gMine w0 bx A m c k wr) (fun i _ => m - (intOf i).toNat)
  case atStart => exact ⟨0, by omega, rfl, HM.out.2.1, HM.out.1⟩
  case round =>
    obtain ⟨k, hk, rfl, hJk, hM1⟩ := hrel
    have hbc := hM1.1.cell 0
    simp at hbc
    by_cases hlt : k < m
    · obtain ⟨hpl, hz0 | ⟨b0, off0, rfl, hb0, hrow⟩⟩ := HM.out.2.2
      · omega
      obtain ⟨l, hl⟩ : ∃ l, ls[k]? = some l := ⟨_, List.getElem?_eq_getElem (by omega)⟩
      obtain ⟨Aj, mj, cj, hcj, hej⟩ := hrow k l hl
      have hcj' : wr.cell? ⟨b0, off0 + k, none⟩ = some (.slice Aj mj cj) := (Below.cell (p := ⟨b0, off0 + k, none⟩) hM1.2 hb0).trans hcj
      have hki : (k : Int) < m := by omega
      have hkd : decide ((k : Int) < m) = true := decide_eq_true hki
      obtain ⟨fn, tmps, assign, body, hy, hR⟩ := hY k #[.slice Aj mj cj] wr hlt hJk hM1 ⟨hM1.2, Aj, mj, cj, l, rfl, hl, hej⟩
      have HR := Lib.hid hR
      have Hlt := Lib.hid hlt
      clear hR hJk hM1 hpl hrow hcj hej hl hb0 hlt hk
      gi_wp2
      refine HR.out.mono ?_
      rintro e W' (⟨rfl, hJ', hM'⟩ | ⟨rfl, hJx'⟩)
      · have HN := Lib.hid (And.intro hJ' hM')
        clear hJ' hM'
        gi_wp2
        go_roundw
        case rel => exact ⟨k + 1, Hlt.out, by go_num, HN.out.1, HN.out.2⟩
        case measure => have := Hlt.out; simp [intOf]; omega
      · gi_wp2
        refine bodyPost_ret (results_none rfl _ _ _) rfl ?_
        exact ⟨⟨_, rfl⟩, .inr ⟨_, Hlt.out, hJx'⟩⟩
    · obtain rfl : k = m := by omega
      have hki : ¬ (k : Int) < k := by omega
      have hkd : decide ((k : Int) < k) = false := decide_eq_false hki
      have HJ := Lib.hid hJk
      clear hJk hM1 hk hlt
      gi_wp2
      go_end0
      exact ⟨⟨_, rfl⟩, .inl HJ.out⟩
end Go.Proofs.Ytiocmebcbhbcmaa
namespace Go.Proofs.Ytiocmebcbhbcmaa
open Go.RowKit

theorem Turn.of_nil {G : List Nat} {w w' : World} (h : Turn [] w w') : Turn G w w' := ⟨h.os, h.tape, h.output, h.size, fun k hk _ => h.block k hk (by simp)⟩
/-- WHAT AN ITERATOR DOES, called with a round's function: N rounds, none of which says 'no more'; G are the blocks that are its own at that time: it writes in them, and what it lays anew may come to them; the round leaves them alone. -/
def IterG (P : Program) (gf : Nat) (lb : Array Value) (Arg : Nat → Array Value → World → Prop) (N : Nat) (Start : List Nat → World → Prop) (B : Nat) : Prop :=
  ∀ (l : Nat) (J : Nat → List Nat → World → Prop) (W : World) (G : List Nat),
    (∀ k G1 G2 W1 W2, J k G1 W1 → Turn G1 W1 W2 → (∀ x ∈ G2, x ∈ G1 ∨ W1.heap.size ≤ x) → J k G2 W2) →
    (∀ k args G1 W1, k < N → J k G1 W1 → Arg k args W1 → (∀ x ∈ G1, x < W1.heap.size) → YieldAt Fence.wide 2 P l args W1 fun e W' =>
      e = .returned (.bool true) ∧ J (k + 1) G1 W' ∧ ∃ S, Turn S W1 W' ∧ ∀ x ∈ S, x ∉ G1 ∧ B ≤ x) →
    J 0 G W → Start G W →
    CallsIn Fence.wide 3 P gf (#[.func (.yield l) #[] #[]] ++ lb) W fun e W' => (∃ v, e = .returned v) ∧ ∃ G', J N G' W'
/-- What the body of a round keeps: the two blocks of book-keeping, and the iterator's own. -/
def KeepsG (D : Nat) (G : List Nat) (B : Nat) (W W' : World) : Prop := ∃ S, Turn S W W' ∧ D ∉ S ∧ D + 1 ∉ S ∧ ∀ x ∈ S, x ∉ G ∧ B ≤ x
theorem KeepsG.two {D : Nat} {G : List Nat} {B : Nat} {W W' : World} (h : KeepsG D G B W W') : KeepsTwo D W W' := by
  obtain ⟨S, h1, h2, h3, _⟩ := h
  exact ⟨S, h1, h2, h3⟩
/-- How the body of the k-th round may be left. -/
def roundEndsG (D : Nat) (I : Nat → List Nat → World → Prop) (k : Nat) (G : List Nat) (B : Nat) (W : World) : Exit → Act → World → Prop
  | .normal, _, W' => KeepsG D G B W W' ∧ I (k + 1) G W'
  | _, _, _ => False
theorem wp_rangeG {P : Program} {g : Operand} {ps : Array Tmp} {assign body : Code} {Q : Exit → Act → World → Prop} {a : Act} {w : World}
    {gf : Nat} {lb : Array Value} {Arg : Nat → Array Value → World → Prop} {N : Nat} {Start : List Nat → World → Prop} {G : List Nat} {B : Nat}
    (hg : a.eval g = .func (.func gf) #[] lb) (eg : ∀ args w, (callFunc gf args).run P w = .ok (.enter gf args) w)
    (hit : IterG P gf lb Arg N Start B) (hB : B ≤ w.heap.size) (hps : ∀ k args W, Arg k args W → args.size = ps.size) (hG : ∀ t ∈ G, t < w.heap.size)
    (I : Nat → List Nat → World → Prop)
    (hI : ∀ k G1 G2 W1 W2, I k G1 W1 → Turn G1 W1 W2 → (∀ x ∈ G2, x ∈ G1 ∨ W1.heap.size ≤ x) → I k G2 W2)
    (hIl : ∀ k G1 W1 W2, I k G1 W1 → (∃ r, W1.heap[w.heap.size + 1]? = some (.loop r)) → Turn [w.heap.size + 1] W1 W2 → I k G1 W2)
    (hA : ∀ k args W1 W2, Arg k args W1 → (∃ r, W1.heap[w.heap.size + 1]? = some (.loop r)) → Turn [w.heap.size + 1] W1 W2 → Arg k args W2)
    (h0 : I 0 G w) (hS1 : ∀ W, Turn [] w W → Start G W) (a₁ : Array Value → Act)
    (hassign : ∀ (l : Nat) (args : Array Value) (k : Nat) (W : World) (K : Act → World → Prop), Arg k args W → K (a₁ args) W →
      assign.wpIn (Fence.wide.inRound l) 2 P (Exit.then K (fun _ _ _ => False)) { tmps := (ps.zip args).foldl (fun t (p, v) => t.setIfInBounds p v) a.tmps, defers := [] } W)
    (hbody : ∀ (l k : Nat) (args : Array Value) (G1 : List Nat) (W : World), k < N → w.heap.size + 1 < W.heap.size → I k G1 W → Arg k args W → w.heap.size ∉ G1 → w.heap.size + 1 ∉ G1 → (∀ x ∈ G1, x < W.heap.size) → body.wpIn (Fence.wide.inRound l) 2 P (roundEndsG w.heap.size I k G1 B W) (a₁ args) W)
    (hdone : ∀ (G1 : List Nat) (W : World), w.heap.size + 1 < W.heap.size → I N G1 W → W.heap[w.heap.size]? = some (.deferred (some [])) → Q .normal { a with defers := { target := .collected w.heap.size, args := #[] } :: a.defers } W) :
    (Code.rangeFunc g ps assign body).wp P Q a w := by
  refine (wpIn_wide (n := 4)).1 (wpIn_rangeFunc ?_)
  intro fn hfn
  rw [Fence.wide_round]
  obtain ⟨rec, hrec⟩ : ∃ rec : LoopState → Option Code → Loop, rec = fun st pe => { state := st, pending := pe, fn, tmps := a.tmps, params := ps, assign, body, defers := w.heap.size } := ⟨_, rfl⟩
  obtain ⟨W1, hW1⟩ : ∃ W1, (w.alloc (.deferred (some []))).alloc (.loop (rec .ready none)) = W1 := ⟨_, rfl⟩
  have hL1 : W1.heap[w.heap.size + 1]? = some (.loop (rec .ready none)) := by
    rw [← hW1]; have := World.alloc_heap_new (w.alloc (.deferred (some []))) (.loop (rec .ready none)); rwa [World.size_alloc] at this
  have hK1 : W1.heap[w.heap.size]? = some (.deferred (some [])) := by
    rw [← hW1]; exact (Below.heap_alloc _ _ _ (by simp)).trans (World.alloc_heap_new w _)
  have hT1 : Turn [] w W1 := by rw [← hW1]; exact ((Turn.refl _ _).alloc _).alloc _
  have hI1 : I 0 G W1 := hI 0 G G w W1 h0 (Turn.of_nil hT1) (fun x hx => .inl hx)
  have hMine1 : Start G W1 := hS1 W1 hT1
  have hTD : w.heap.size ∉ G ∧ w.heap.size + 1 ∉ G := ⟨fun h => by have := hG _ h; omega, fun h => by have := hG _ h; omega⟩
  refine ⟨w.heap.size + 1, [{ target := .collected w.heap.size, args := #[] }], W1, { target := .fn (.func gf) lb, args := #[.func (.yield (w.heap.size + 1)) #[] #[]] }, W1, gf,
    #[.func (.yield (w.heap.size + 1)) #[] #[]] ++ lb, W1, ?_, ?_, ?_, ?_, fun h => by simp [Fence.wide] at h, ?_⟩
  · rw [← hW1, hrec]; exact run_enterLoop_outer _ _ _ _ _
  · simp only [resolve, hg]
    simp [go_sem]
  · intro f' hf'; exact trivial
  · simp [invoke, go_sem, eg]
  · refine (hit (w.heap.size + 1)
      (fun k G1 W => I k G1 W ∧ W.heap[w.heap.size + 1]? = some (.loop (rec .ready none)) ∧ W.heap[w.heap.size]? = some (.deferred (some [])) ∧ w.heap.size ∉ G1 ∧ w.heap.size + 1 ∉ G1)
      W1 G ?_ ?_ ⟨hI1, hL1, hK1, hTD⟩ hMine1).mono ?_
    · rintro k G1 G2 A B ⟨hi, hl, hk, hd1, hd2⟩ ht hg2
      have hlt : w.heap.size + 1 < A.heap.size := (Array.getElem?_eq_some_iff.1 hl).1
      exact ⟨hI k G1 G2 A B hi ht hg2, (ht.block _ hlt hd2).trans hl, (ht.block _ (by omega) hd1).trans hk, fun h => by rcases hg2 _ h with h | h; exact hd1 h; omega, fun h => by rcases hg2 _ h with h | h; exact hd2 h; omega⟩
    · rintro k args G1 W hkN ⟨hi, hl, hk, hd1, hd2⟩ harg hgs
      have hlt : w.heap.size + 1 < W.heap.size := (Array.getElem?_eq_some_iff.1 hl).1
      have hy := run_yield (P := P) (args := args) hl (by rw [hrec]; exact hps k args W harg)
      rw [hrec] at hy
      refine ⟨fn, _, assign, body, hy, roundIn_of_wpIn hfn (hassign _ args k W _ harg ?_)⟩
      clear hy
      refine ⟨_, run_beginRound hl (by rw [hrec]), ?_⟩
      have hl2 : (W.putObj (w.heap.size + 1) (.loop { rec .ready none with state := .busy })).heap[w.heap.size + 1]? = some (.loop { rec .ready none with state := .busy }) := World.putObj_heap_same hlt
      have hk2 : (W.putObj (w.heap.size + 1) (.loop { rec .ready none with state := .busy })).heap[w.heap.size]? = some (.deferred (some [])) := (World.putObj_heap_other (by omega)).trans hk
      have ht2 : Turn [w.heap.size + 1] W (W.putObj (w.heap.size + 1) (.loop { rec .ready none with state := .busy })) := (Turn.refl _ W).putObj (.inl (by simp)) _
      refine wpIn_mono (hbody _ k args G1 _ hkN (by simpa using hlt) (hIl _ _ _ _ hi ⟨_, hl⟩ ht2) (hA _ _ _ _ harg ⟨_, hl⟩ ht2) hd1 hd2 (fun x hx => by simpa using hgs x hx)) ?_
      have fin : ∀ (jump : Option Code) (W3 : World), KeepsTwo w.heap.size (W.putObj (w.heap.size + 1) (.loop { rec .ready none with state := .busy })) W3 →
          (Instr.endRound (w.heap.size + 1) jump).run P W3 = .ok (.bool jump.isNone) (W3.putObj (w.heap.size + 1) (.loop (rec (if jump.isNone then .ready else .done) jump))) ∧
          W3.heap[w.heap.size + 1]? = some (.loop { rec .ready none with state := .busy }) ∧
          (W3.putObj (w.heap.size + 1) (.loop (rec (if jump.isNone then .ready else .done) jump))).heap[w.heap.size + 1]? = some (.loop (rec (if jump.isNone then .ready else .done) jump)) ∧
          (W3.putObj (w.heap.size + 1) (.loop (rec (if jump.isNone then .ready else .done) jump))).heap[w.heap.size]? = some (.deferred (some [])) := fun jump W3 hk3 => by
        obtain ⟨S, ht, hs1, hs2⟩ := hk3
        have hl3 := (ht.block _ (by simpa using hlt) hs2).trans hl2
        have hk3 := (ht.block _ (by simp; omega) hs1).trans hk2
        have := run_endRound (P := P) jump hl3
        rw [hrec] at this ⊢
        exact ⟨this, by rw [hrec] at hl3; exact hl3, World.putObj_heap_same (Array.getElem?_eq_some_iff.1 hl3).1, (World.putObj_heap_other (by omega)).trans hk3⟩
      have ht4 : ∀ (W3 : World) (o : Obj), Turn [w.heap.size + 1] W3 (W3.putObj (w.heap.size + 1) o) := fun W3 o => (Turn.refl _ W3).putObj (.inl (by simp)) _
      rintro e a3 W3 hp
      cases e with
      | normal =>
        obtain ⟨hk3, hi3⟩ := hp
        obtain ⟨hr, hl3, hl4, hk4⟩ := fin none W3 hk3.two
        obtain ⟨S, hT3, hs1, hs2, hs3⟩ := hk3
        refine ⟨_, _, hr, rfl, ⟨hIl _ _ _ _ hi3 ⟨_, hl3⟩ (ht4 _ _), hl4, hk4, hd1, hd2⟩, (w.heap.size + 1) :: S, ?_, ?_⟩
        · exact ((ht2.more (fun x hx => by simp at hx; simp [hx])).trans (hT3.more (fun x hx => List.mem_cons_of_mem _ hx)) (fun x hx => .inl hx)).trans ((ht4 W3 _).more (fun x hx => by simp at hx; simp [hx])) (fun x hx => .inl hx)
        · intro x hx
          rcases List.mem_cons.1 hx with rfl | hx
          · exact ⟨hd2, by omega⟩
          · exact hs3 x hx
      | ret => exact hp.elim
      | exit id => exact hp.elim
      | goto t => exact hp.elim
      | panic ch => exact hp.elim
      | outgrown => exact hp.elim
    · have ht4 : ∀ (W3 : World) (o : Obj), Turn [w.heap.size + 1] W3 (W3.putObj (w.heap.size + 1) o) := fun W3 o => (Turn.refl _ W3).putObj (.inl (by simp)) _
      rintro e W2 ⟨⟨v, rfl⟩, G', hi, hl, hk, _⟩
      · have hlt : w.heap.size + 1 < W2.heap.size := (Array.getElem?_eq_some_iff.1 hl).1
        exact ⟨none, _, by have := run_endLoop (P := P) hl (by rw [hrec]; simp); rw [hrec] at this; exact this,
          hdone G' _ (by simpa using hlt) (hIl _ _ _ _ hi ⟨_, hl⟩ (ht4 _ _)) ((World.putObj_heap_other (by omega)).trans hk)⟩
end Go.Proofs.Ytiocmebcbhbcmaa
namespace Go.Proofs.Ytiocmebcbhbcmaa
set_option maxRecDepth 100000
open Go.RowKit

def leN (x : UInt8) (n : Int) : Bool := decide ((x.toNat : Int) ≤ n)
theorem leqI_B (t : TypeId) (x : UInt8) (n : Int) : binOp .leq t (B x) (.int .u8 n) = pure (.bool (leN x n)) := by
  rw [show B x = .int .u8 (x.toNat : Int) from rfl]
  exact binOp_leq t .u8 _ _
attribute [local go_sem] leqI_B
def mayF (mode : Int) (k p : List UInt8) : Int := if mode < 1 ∨ 5 < mode then 112 else if ¬ keyOk k then 98 else if ¬ parOk mode.toNat p then 113 else 0
theorem par0 {A : Option Addr} {m c : Nat} {p : List UInt8} {w : World} (hp : Rd w A m c p) (h : 0 < m) : ∃ b off z, A = some ⟨b, off, none⟩ ∧ p.getD 0 0 = z ∧ w.cell? ⟨b, off, none⟩ = some (B z) := by
  obtain ⟨b, off, hA, hat⟩ := hp.addr h
  obtain ⟨z, hz⟩ : ∃ z, p[0]? = some z := ⟨_, List.getElem?_eq_getElem (by have := hp.1; omega)⟩
  have := hat.2 0 z hz
  rw [Nat.add_zero] at this
  exact ⟨b, off, z, hA, by rw [List.getD_eq_getElem?_getD, hz]; rfl, this⟩
set_option maxHeartbeats 1000000 in
theorem rparam_any (mode : Nat) (A : Option Addr) (m c : Nat) (p : List UInt8) (w : World) (hp : Rd w A m c p) (h1 : 1 ≤ mode) (h5 : mode ≤ 5) (hm : m ≤ 100000000) :
    Calls Try.prog 30 #[.int .i64 (mode : Int), .slice A m c] w fun e w' => e = .returned (.bool (decide (parOk mode p))) ∧ w = w' := by
  have hml := hp.1
  have hmode : mode = 1 ∨ mode = 2 ∨ mode = 3 ∨ mode = 4 ∨ mode = 5 := by omega
  have hcase : ∀ (n : Nat) (q : Bool), decide (parOk mode p) = q → q = decide (parOk mode p) := fun _ _ h => h.symm
  rcases hmode with rfl | rfl | rfl | rfl | rfl
  · have hd : decide (parOk 1 p) = ((m : Int) == 0) := by
      have hpo : parOk 1 p ↔ p = [] := by unfold parOk; rw [if_pos rfl]
      by_cases h : m = 0
      · rw [decide_eq_true (hpo.2 (List.length_eq_zero_iff.1 (by omega))), h]; rfl
      · rw [decide_eq_false (fun e => h (by have := hpo.1 e; rw [this] at hml; simpa using hml))]; symm; simp; omega
    rw [hd, show ((1 : Nat) : Int) = 1 from rfl]
    clear hp hml hcase hd
    go_enter Try.func30, Try.ntmps30
    go_wp2_with fail
    go_ret
    exact ⟨rfl, rfl⟩
  · have hd : decide (parOk 2 p) = ((m : Int) == 16) := by
      have hpo : parOk 2 p ↔ p.length = 16 := by unfold parOk; rw [if_neg (by decide), if_neg (by decide), if_neg (by decide)]
      by_cases h : m = 16
      · rw [decide_eq_true (hpo.2 (by omega)), h]; rfl
      · rw [decide_eq_false (fun e => h (by have := hpo.1 e; omega))]; symm; simp; omega
    rw [hd, show ((2 : Nat) : Int) = 2 from rfl]
    clear hp hml hcase hd
    go_enter Try.func30, Try.ntmps30
    go_wp2_with fail
    go_ret
    exact ⟨rfl, rfl⟩
  · have hd : decide (parOk 3 p) = ((m : Int) == 16) := by
      have hpo : parOk 3 p ↔ p.length = 16 := by unfold parOk; rw [if_neg (by decide), if_neg (by decide), if_neg (by decide)]
      by_cases h : m = 16
      · rw [decide_eq_true (hpo.2 (by omega)), h]; rfl
      · rw [decide_eq_false (fun e => h (by have := hpo.1 e; omega))]; symm; simp; omega
    rw [hd, show ((3 : Nat) : Int) = 3 from rfl]
    clear hp hml hcase hd
    go_enter Try.func30, Try.ntmps30
    go_wp2_with fail
    go_ret
    exact ⟨rfl, rfl⟩
  · have hpo : parOk 4 p ↔ p.length = 17 ∧ 1 ≤ (p.getD 0 0).toNat ∧ (p.getD 0 0).toNat ≤ 128 := by unfold parOk; rw [if_neg (by decide), if_pos rfl]
    obtain ⟨RB, hRB⟩ : ∃ b, decide (parOk 4 p) = b := ⟨_, rfl⟩
    rw [hRB, show ((4 : Nat) : Int) = 4 from rfl]
    by_cases h17 : m = 17
    · obtain ⟨b, off, z, rfl, hz, y0⟩ := par0 hp (by omega)
      rw [hz] at hpo
      subst h17
      by_cases g1 : 1 ≤ z.toNat
      · have g1' : geN z 1 = true := decide_eq_true (by omega)
        by_cases g2 : z.toNat ≤ 128
        · have g2' : leN z 128 = true := decide_eq_true (by omega)
          have hb : RB = true := by rw [← hRB]; exact decide_eq_true (hpo.2 ⟨hml.symm, g1, g2⟩)
          have HB := Lib.hid hb
          clear hp hml hcase hpo hRB hb hz g1 g2
          go_enter Try.func30, Try.ntmps30
          go_wp2_with fail
          go_ret
          have e := HB.out
          subst e
          exact ⟨rfl, rfl⟩
        · have g2' : leN z 128 = false := decide_eq_false (by omega)
          have hb : RB = false := by rw [← hRB]; exact decide_eq_false (fun e => g2 (hpo.1 e).2.2)
          have HB := Lib.hid hb
          clear hp hml hcase hpo hRB hb hz g1 g2
          go_enter Try.func30, Try.ntmps30
          go_wp2_with fail
          go_ret
          have e := HB.out
          subst e
          exact ⟨rfl, rfl⟩
      · have g1' : geN z 1 = false := decide_eq_false (by omega)
        have hb : RB = false := by rw [← hRB]; exact decide_eq_false (fun e => g1 (hpo.1 e).2.1)
        have HB := Lib.hid hb
        clear hp hml hcase hpo hRB hb hz g1
        go_enter Try.func30, Try.ntmps30
        go_wp2_with fail
        go_ret
        have e := HB.out
        subst e
        exact ⟨rfl, rfl⟩
    · have hb : RB = false := by rw [← hRB]; exact decide_eq_false (fun e => h17 (by rw [hml]; exact (hpo.1 e).1))
      have hb17 : ((m : Int) == 17) = false := by simp; omega
      have hi17 : ¬ (m : Int) = 17 := by omega
      have HB := Lib.hid hb
      clear hp hml hcase hpo hRB hb h17
      go_enter Try.func30, Try.ntmps30
      go_wp2_with fail
      go_ret
      have e := HB.out
      subst e
      exact ⟨rfl, rfl⟩
  · have hpo : parOk 5 p ↔ 2 ≤ p.length ∧ 1 ≤ (p.getD 0 0).toNat ∧ 1 + (p.getD 0 0).toNat ≤ p.length := by unfold parOk; rw [if_neg (by decide), if_neg (by decide), if_pos rfl]; rfl
    obtain ⟨RB, hRB⟩ : ∃ b, decide (parOk 5 p) = b := ⟨_, rfl⟩
    rw [hRB, show ((5 : Nat) : Int) = 5 from rfl]
    by_cases h2 : 2 ≤ m
    · obtain ⟨b, off, z, rfl, hz, y0⟩ := par0 hp (by omega)
      rw [hz] at hpo
      have i2 : (m : Int) ≥ 2 := by omega
      have d2 : decide ((m : Int) ≥ 2) = true := decide_eq_true i2
      have im : (0 : Int) < m := by omega
      have hcv := conv_Bi z w
      have hw : IntKind.i64.wrap ((m : Int) - 1) = (m : Int) - 1 := IntWalk.i64_in _ (by omega)
      by_cases g1 : 1 ≤ z.toNat
      · have g1' : geN z 1 = true := decide_eq_true (by omega)
        by_cases g2 : 1 + z.toNat ≤ m
        · have hb : RB = true := by rw [← hRB]; exact decide_eq_true (hpo.2 ⟨by omega, g1, by omega⟩)
          obtain ⟨n, hn⟩ : ∃ n, z.toNat = n := ⟨_, rfl⟩
          rw [hn] at hcv
          have g2' : (m : Int) - 1 ≥ (n : Int) := by omega
          have g2d : decide ((m : Int) - 1 ≥ (n : Int)) = true := decide_eq_true g2'
          have HB := Lib.hid hb
          clear hp hml hcase hpo hRB hb hz g1 g2 hn h2
          go_enter Try.func30, Try.ntmps30
          go_wp2_with fail
          go_ret
          have e := HB.out
          subst e
          exact ⟨rfl, rfl⟩
        · have hb : RB = false := by rw [← hRB]; exact decide_eq_false (fun e => g2 (by rw [hml]; exact (hpo.1 e).2.2))
          obtain ⟨n, hn⟩ : ∃ n, z.toNat = n := ⟨_, rfl⟩
          rw [hn] at hcv
          have g2' : ¬ (m : Int) - 1 ≥ (n : Int) := by omega
          have g2d : decide ((m : Int) - 1 ≥ (n : Int)) = false := decide_eq_false g2'
          have HB := Lib.hid hb
          clear hp hml hcase hpo hRB hb hz g1 g2 hn h2
          go_enter Try.func30, Try.ntmps30
          go_wp2_with fail
          go_ret
          have e := HB.out
          subst e
          exact ⟨rfl, rfl⟩
      · have g1' : geN z 1 = false := decide_eq_false (by omega)
        have hb : RB = false := by rw [← hRB]; exact decide_eq_false (fun e => g1 (hpo.1 e).2.1)
        have HB := Lib.hid hb
        clear hp hml hcase hpo hRB hb hz g1 h2 hcv hw
        go_enter Try.func30, Try.ntmps30
        go_wp2_with fail
        go_ret
        have e := HB.out
        subst e
        exact ⟨rfl, rfl⟩
    · have hb : RB = false := by rw [← hRB]; exact decide_eq_false (fun e => h2 (by rw [hml]; exact (hpo.1 e).1))
      have i2 : ¬ (m : Int) ≥ 2 := by omega
      have d2 : decide ((m : Int) ≥ 2) = false := decide_eq_false i2
      have HB := Lib.hid hb
      clear hp hml hcase hpo hRB hb h2
      go_enter Try.func30, Try.ntmps30
      go_wp2_with fail
      go_ret
      have e := HB.out
      subst e
      exact ⟨rfl, rfl⟩
set_option maxHeartbeats 1000000 in
theorem rmay_any (mode : Int) (A C : Option Addr) (mk ck m c : Nat) (k p : List UInt8) (w : World) (hk : Rd w A mk ck k) (hp : Rd w C m c p) (hm : m ≤ 100000000) :
    Calls Try.prog 14 #[.int .i64 mode, .slice A mk ck, .slice C m c] w fun e w' => e = .returned (.int .i64 (mayF mode k p)) ∧ w = w' := by
  obtain ⟨RB, hRB⟩ : ∃ b, mayF mode k p = b := ⟨_, rfl⟩
  rw [hRB]
  unfold mayF at hRB
  by_cases h1 : mode < 1
  · have d1 : decide (mode < 1) = true := decide_eq_true h1
    rw [if_pos (.inl h1)] at hRB
    subst hRB
    clear hk hp
    go_enter Try.func14, Try.ntmps14
    go_wp2_with fail
    go_ret
    exact ⟨rfl, rfl⟩
  · have d1 : decide (mode < 1) = false := decide_eq_false h1
    by_cases h5 : 5 < mode
    · have g5 : mode > 5 := h5
      have d5 : decide (mode > 5) = true := decide_eq_true h5
      rw [if_pos (.inr h5)] at hRB
      subst hRB
      clear hk hp h5
      go_enter Try.func14, Try.ntmps14
      go_wp2_with fail
      go_ret
      exact ⟨rfl, rfl⟩
    · have g5 : ¬ mode > 5 := h5
      have d5 : decide (mode > 5) = false := decide_eq_false h5
      rw [if_neg (by omega)] at hRB
      obtain ⟨mo, rfl⟩ := Int.eq_ofNat_of_zero_le (show 0 ≤ mode by omega)
      rw [Int.toNat_natCast] at hRB
      have hcall := rparam_any mo C m c p w hp (by omega) (by omega) hm
      have hkl := hk.1
      by_cases hko : keyOk k
      · rw [if_neg (fun h => h hko)] at hRB
        obtain ⟨q, hq⟩ : ∃ q, decide (parOk mo p) = q := ⟨_, rfl⟩
        rw [hq] at hcall
        have hR : RB = if q = true then 0 else 113 := by
          rw [← hRB]
          by_cases hpo : parOk mo p
          · rw [if_neg (fun h => h hpo), ← hq, decide_eq_true hpo, if_pos rfl]
          · rw [if_pos hpo, ← hq, decide_eq_false hpo, if_neg (by decide)]
        have HH := Lib.hid (And.intro hcall hR)
        have hk3 : mk = 16 ∨ mk = 24 ∨ mk = 32 := by unfold keyOk at hko; omega
        clear hk hp hcall hRB hko hkl hq hR h5
        rcases hk3 with rfl | rfl | rfl
        all_goals
          cases q
          all_goals
            go_enter Try.func14, Try.ntmps14
            go_wp2_with fail
            refine HH.out.1.mono ?_
            rintro e w1 ⟨rfl, rfl⟩
            go_wp2_with fail
            go_ret
            have e := HH.out.2
            simp at e
            subst e
            exact ⟨rfl, rfl⟩
      · rw [if_pos hko] at hRB
        subst hRB
        have i1 : ¬ (mk : Int) = 16 := by unfold keyOk at hko; omega
        have i2 : ¬ (mk : Int) = 24 := by unfold keyOk at hko; omega
        have i3 : ¬ (mk : Int) = 32 := by unfold keyOk at hko; omega
        have j1 : ((mk : Int) != 16) = true := by simpa using i1
        have j2 : ((mk : Int) != 24) = true := by simpa using i2
        have j3 : ((mk : Int) != 32) = true := by simpa using i3
        clear hk hp hcall hko hkl h5
        go_enter Try.func14, Try.ntmps14
        go_wp2_with fail
        go_ret
        exact ⟨rfl, rfl⟩
end Go.Proofs.Ytiocmebcbhbcmaa
