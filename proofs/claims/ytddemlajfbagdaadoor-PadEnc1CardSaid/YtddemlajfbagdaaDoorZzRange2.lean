/-
  Pad: the iterator over random bytes, which counts.
  A region that draws its order, in a round of a range over a function: what is shown of it plainly holds in the round. Over any program.
  A range over a function of two results; what a return out of it asks. Copies of words of the hashes' seat.
-/
import Derived.Test.YtddemlajfbagdaaDoorZzOpenP
import Derived.RangeFuncBound
import Derived.RangeFuncCalls
import Derived.OwnWalkIn
import Derived.TacticsInMore
import Derived.LoopNIn
import Derived.LoopIn
import Derived.Test.YtddemlajfbagdaaDoorZzRange
import Derived.Deep.RegionHeld3
import Derived.RegionIn
import Derived.Test.YtddemlajfbagdaaDoorZzRot
namespace Go.Proofs.YtddemlajfbagdaaDoor
set_option maxRecDepth 100000
open Go.RowKit
attribute [local go_sem] Oper.semAt_some

theorem given8_any (A : Option Addr) (m c cnt : Nat) (w : World) : Calls Tryd.prog 27 #[.slice A m c, .pointer (some ⟨cnt, 0, none⟩)] w fun e w' =>
    e = .returned (.func (.func 46) #[] #[.pointer (some ⟨w.heap.size, 0, none⟩), .pointer (some ⟨w.heap.size + 1, 0, none⟩)]) ∧ (w.alloc (.cells #[.slice A m c] 22)).alloc (.cells #[.pointer (some ⟨cnt, 0, none⟩)] 45) = w' := by
  go_enter Tryd.func27, Tryd.ntmps27
  go_wp2
  go_ret
  exact ⟨rfl, rfl⟩
/-- What the iterator needs: its two boxes, the count, and the bytes. -/
structure G8 (bx bp cnt : Nat) (A : Option Addr) (m c : Nat) (r : List UInt8) (k : Nat) (W : World) : Prop where
  b1 : Blk W bx 22 #[.slice A m c]
  b2 : Blk W bp 45 #[.pointer (some ⟨cnt, 0, none⟩)]
  b3 : Blk W cnt 3 #[.int .i64 (k : Int)]
  rd : Rd W A m c r
  far : ∀ ad, A = some ad → ad.block < cnt
theorem G8.turn {bx bp cnt : Nat} {A : Option Addr} {m c : Nat} {r : List UInt8} {k : Nat} {W W2 : World} {S : List Nat} (h : G8 bx bp cnt A m c r k W) (ht : Turn S W W2) (hS : ∀ x ∈ S, x ≠ bx ∧ x ≠ bp ∧ x ≠ cnt ∧ ∀ ad, A = some ad → ad.block ≠ x) : G8 bx bp cnt A m c r k W2 :=
  ⟨h.b1.turn ht (fun hm => (hS _ hm).1 rfl), h.b2.turn ht (fun hm => (hS _ hm).2.1 rfl), h.b3.turn ht (fun hm => (hS _ hm).2.2.1 rfl), h.rd.turn ht (fun ad ha hm => (hS _ hm).2.2.2 ad ha rfl), h.far⟩
theorem G8.set_ {bx bp cnt : Nat} {A : Option Addr} {m c : Nat} {r : List UInt8} {k : Nat} {W : World} (h : G8 bx bp cnt A m c r k W) (k1 : Nat) : G8 bx bp cnt A m c r k1 (W.setCell ⟨cnt, 0, none⟩ (.int .i64 (k1 : Int))) := by
  have n1 : bx ≠ cnt := h.b1.ne_ h.b3 (by decide)
  have n2 : bp ≠ cnt := h.b2.ne_ h.b3 (by decide)
  have ht : Turn [cnt] W (W.setCell ⟨cnt, 0, none⟩ (.int .i64 (k1 : Int))) := (Turn.refl _ _).setCell (.inl (by simp)) _
  exact ⟨h.b1.far n1 _, h.b2.far n2 _, h.b3.set_ 0 _, h.rd.turn ht (fun ad ha hm => by have := h.far ad ha; simp at hm; omega), h.far⟩
def g8Arg (r : List UInt8) (k : Nat) (args : Array Value) (_W : World) : Prop := ∃ x, args = #[B x] ∧ r[k]? = some x
set_option maxHeartbeats 2000000 in
theorem given8_iter (bx bp cnt : Nat) (A : Option Addr) (m c : Nat) (r : List UInt8) (hm : m ≤ 100000) :
    IterF Tryd.prog 46 #[.pointer (some ⟨bx, 0, none⟩), .pointer (some ⟨bp, 0, none⟩)] (g8Arg r) (G8 bx bp cnt A m c r 0) (fun k => G8 bx bp cnt A m c r (k + 1)) (G8 bx bp cnt A m c r m) m [cnt] := by
  intro l' J Jx W hJ hJx hY h0 hM
  refine callsIn_of_wp Tryd.func46 rfl trivial ?_ rfl
  simp only [Tryd.ntmps46, List.size_toArray, List.length_cons, List.length_nil, Nat.reduceAdd, Nat.reduceSub, Array.replicate_succ, Array.replicate_zero, List.push_toArray, List.append_toArray, List.nil_append, List.cons_append]
  have hmi : (m : Int) ≤ 100000 := by omega
  have HM := Lib.hid (And.intro hM h0)
  clear hM h0
  gi_wp2
  gi_loopw [4] (fun i wr => ∃ k : Nat, k ≤ m ∧ i = .int .i64 k ∧ J k wr ∧ G8 bx bp cnt A m c r k wr) (fun i _ => m - (intOf i).toNat)
  case atStart => exact ⟨0, by omega, rfl, HM.out.2, HM.out.1⟩
  case round =>
    obtain ⟨k, hk, rfl, hJk, hM1⟩ := hrel
    have c1 := hM1.b1.cell 0
    have c2 := hM1.b2.cell 0
    have c3 := hM1.b3.cell 0
    have f3 := hM1.b3.frozen 0
    have n1 : bx ≠ cnt := hM1.b1.ne_ hM1.b3 (by decide)
    simp only [List.getElem?_toArray, List.getElem?_cons_zero] at c1 c2 c3
    by_cases hlt : k < m
    · obtain ⟨x, hx⟩ : ∃ x, r[k]? = some x := ⟨_, List.getElem?_eq_getElem (by rw [← hM1.rd.1]; exact hlt)⟩
      obtain ⟨b0, o0, rfl, hat⟩ := hM1.rd.addr (by omega)
      have cx := hat.2 k x hx
      have hbc : b0 < cnt := hM1.far _ rfl
      have hki : (k : Int) < m := by omega
      have hkc : (k : Int) < c := by have := hM1.rd.2.1; omega
      have hkd : decide ((k : Int) < m) = true := decide_eq_true hki
      obtain ⟨k1, hk1⟩ : ∃ k1, k + 1 = k1 := ⟨_, rfl⟩
      have hk1i : (k : Int) + 1 = (k1 : Int) := by omega
      have hk1w : IntKind.i64.wrap (k1 : Int) = (k1 : Int) := IntWalk.i64_in _ (by omega)
      obtain ⟨w1, hw1⟩ : ∃ w1, wr.setCell ⟨cnt, 0, none⟩ (.int .i64 (k1 : Int)) = w1 := ⟨_, rfl⟩
      have hM2 : G8 bx bp cnt (some ⟨b0, o0, none⟩) m c r k1 w1 := by rw [← hw1]; exact hM1.set_ k1
      have hJ2 : J k w1 := by rw [← hw1]; exact hJ k _ _ hJk ((Turn.refl _ _).setCell (.inl (by simp)) _)
      have cx2 : w1.cell? ⟨b0, o0 + k, none⟩ = some (B x) := by rw [← hw1, cell_far wr 0 (o0 + k) _ (by omega)]; exact cx
      have c12 : w1.cell? ⟨bx, 0, none⟩ = some (.slice (some ⟨b0, o0, none⟩) m c) := by rw [← hw1, cell_far wr 0 0 _ n1]; exact c1
      obtain ⟨fn, tmps, assign, body, hy, hR⟩ := hY k #[B x] w1 hlt hJ2 (by rw [hk1]; exact hM2) ⟨x, rfl, hx⟩
      have HR := Lib.hid hR
      have Hlt := Lib.hid (And.intro hlt hk1)
      clear hR hJk hM1 hat hJ2 hM2 hx hlt hk hbc cx n1 hk1
      gi_wp2
      clear cx2 c12 hw1 c1 c2 c3 f3
      refine HR.out.mono ?_
      rintro e W' (⟨rfl, hJ', hM'⟩ | ⟨rfl, hJx'⟩)
      · have HN := Lib.hid (And.intro hJ' hM')
        clear hJ' hM'
        gi_wp2
        go_roundw
        case rel => exact ⟨k1, by have := Hlt.out; omega, rfl, by rw [← Hlt.out.2]; exact HN.out.1, by rw [← Hlt.out.2]; exact HN.out.2⟩
        case measure => have := Hlt.out; simp [intOf]; omega
      · gi_wp2
        refine bodyPost_ret (results_none rfl _ _ _) rfl ?_
        exact ⟨⟨_, rfl⟩, .inr ⟨_, Hlt.out.1, hJx'⟩⟩
    · obtain rfl : k = m := by omega
      have hki : ¬ (k : Int) < k := by omega
      have hkd : decide ((k : Int) < k) = false := decide_eq_false hki
      have HJ := Lib.hid (And.intro hJk hM1)
      clear hJk hM1 hk hlt n1
      gi_wp2
      go_end0
      exact ⟨⟨_, rfl⟩, .inl HJ.out⟩
end Go.Proofs.YtddemlajfbagdaaDoor
namespace Go.Proofs.YtddemlajfbagdaaDoor
open Go.RowKit

section
variable {P : Program} {ops : Array Oper} {Q : Exit → Act → World → Prop} {n l : Nat}
theorem oper_round {o : Oper} {a : Act} {w : World} {K : Act → World → Prop} (hd : ∀ c, o.op ≠ .defer c) (h : o.wp P a w K Q) : o.wpIn (Fence.wide.inRound l) n P a w K Q := by
  refine ⟨fun _ _ => trivial, ?_⟩
  rw [Oper.semAt_eq _ _ _ hd]
  unfold Oper.wp at h
  generalize (execOp a.eval o).run P w = r at *
  cases r with
  | ok x w' =>
    cases x with
    | value v => exact h
    | skip => exact h
    | defer d => exact h
    | enter f args => exact ⟨fun hs => by simp [Fence.wide, Fence.inRound] at hs, callsIn_wide.2 h⟩
    | row r args => exact ⟨fun hs => by simp [Fence.wide, Fence.inRound] at hs, fun c cs _ => let ⟨v, w'', hr, s⟩ := h c cs; ⟨v, w'', hr, stepsIn_wide.2 s⟩⟩
    | _ => exact h.elim
  | halt x w' => cases x <;> first | exact h | exact h.elim
theorem ops_round (hd : ∀ (j : Nat) (o : Oper) c, ops[j]? = some o → o.op ≠ .defer c) (hL : ¬ LetsOut Q) :
    ∀ (is : List Nat) (a : Act) (w : World), wpOps P ops Q is a w → wpOpsIn (Fence.wide.inRound l) n P ops Q is a w
  | [], _, _, h => h
  | i :: is, a, w, h => by
    unfold wpOps at h
    unfold wpOpsIn
    cases ho : ops[i]? with
    | none => rw [ho] at h; exact ops_round hd hL is a w h
    | some o =>
      rw [ho] at h
      dsimp only at h ⊢
      split
      · rename_i hw
        rw [if_pos hw] at h
        rcases h with h | h
        · exact Oper.wpIn_mono (fun a w h => ops_round hd hL is a w h) (oper_round (fun c => hd i o c ho) h)
        · exact absurd h.2 hL
      · rename_i hw
        rw [if_neg hw] at h
        exact ⟨fun _ _ => trivial, ops_round hd hL is _ w h⟩
def noDefer (ops : Array Oper) : Bool := ops.all fun o => match o.op with | .defer _ => false | _ => true
theorem noDefer_spec (h : noDefer ops = true) (j : Nat) (o : Oper) (c : Call) (hj : ops[j]? = some o) : o.op ≠ .defer c := by
  intro he
  unfold noDefer at h
  rw [Array.all_eq_true] at h
  obtain ⟨hlt, rfl⟩ := Array.getElem?_eq_some_iff.1 hj
  have := h j hlt
  rw [he] at this
  simp at this
theorem region_round {id : Nat} {a : Act} {w : World} (hd : noDefer ops = true) (hL : ¬ LetsOut Q) (hm : P.follows .mixedOrders = true) {S : World → Prop} (hS : S w.drew)
    (h : S w.drew → wpAnyH P .any ops Q S ops.size (Array.replicate ops.size false) a w.drew) : (Code.region id ops true).wpIn (Fence.wide.inRound l) n P Q a w :=
  wpIn_region_draw fun t => by
    simp only [Region.schedule, hm, Bool.true_or, if_true]
    exact ops_round (noDefer_spec hd) hL _ _ _ (wpAny_sound ops.size t _ a _ (wpAny_of_held _ _ _ _ (h hS)))
end
end Go.Proofs.YtddemlajfbagdaaDoor
namespace Go.Proofs.YtddemlajfbagdaaDoor
open Go.RowKit

theorem wp_range2 (q0 q1 : Nat) {P : Program} {g : Operand} {ps : Array Tmp} {assign body : Code} {Q : Exit → Act → World → Prop} {a : Act} {w : World}
    {gf : Nat} {lb : Array Value} {Arg : Nat → Array Value → World → Prop} {Mine : Nat → World → Prop} {N : Nat} {T : List Nat}
    (hg : a.eval g = .func (.func gf) #[] lb) (eg : ∀ args w, (callFunc gf args).run P w = .ok (.enter gf args) w)
    (hit : Iter P gf lb Arg Mine N T) (hps : ∀ k args W, Arg k args W → args.size = ps.size) (hT : ∀ t ∈ T, t < w.heap.size)
    (I : Nat → World → Prop) (Ix : Code → Nat → World → Prop)
    (hI : ∀ k W1 W2 S, I k W1 → Turn S W1 W2 → (∀ t ∈ S, t ∈ T ∨ (t = w.heap.size + 1 ∧ ∃ r, W1.heap[t]? = some (.loop r))) → I k W2)
    (hIx : ∀ c k W1 W2 S, Ix c k W1 → Turn S W1 W2 → (∀ t ∈ S, t ∈ T ∨ (t = w.heap.size + 1 ∧ ∃ r, W1.heap[t]? = some (.loop r))) → Ix c k W2)
    (hM : ∀ k W1 W2, Mine k W1 → (∃ r, W1.heap[w.heap.size + 1]? = some (.loop r)) → Turn [w.heap.size + 1] W1 W2 → Mine k W2)
    (hA : ∀ k args W1 W2, Arg k args W1 → (∃ r, W1.heap[w.heap.size + 1]? = some (.loop r)) → Turn [w.heap.size + 1] W1 W2 → Arg k args W2)
    (h0 : I 0 w) (hM0 : Mine 0 w) (hM1 : ∀ W, Turn [] w W → Mine 0 W)
    (hassign : ∀ (l : Nat) (args : Array Value) (k : Nat) (W : World) (K : Act → World → Prop), Arg k args W →
      K { tmps := (((ps.zip args).foldl (fun t (p, v) => t.setIfInBounds p v) a.tmps).setIfInBounds q0 (args.getD 0 undef)).setIfInBounds q1 (args.getD 1 undef), defers := [] } W →
      assign.wpIn (Fence.wide.inRound l) 2 P (Exit.then K (fun _ _ _ => False)) { tmps := (ps.zip args).foldl (fun t (p, v) => t.setIfInBounds p v) a.tmps, defers := [] } W)
    (hbody : ∀ (l k : Nat) (args : Array Value) (W : World), k < N → w.heap.size + 1 < W.heap.size → I k W → Mine k W → Arg k args W →
      body.wpIn (Fence.wide.inRound l) 2 P (roundEnds w.heap.size I Ix Mine k W) { tmps := (((ps.zip args).foldl (fun t (p, v) => t.setIfInBounds p v) a.tmps).setIfInBounds q0 (args.getD 0 undef)).setIfInBounds q1 (args.getD 1 undef), defers := [] } W)
    (hdone : ∀ (W : World), w.heap.size + 1 < W.heap.size → I N W → W.heap[w.heap.size]? = some (.deferred (some [])) → Q .normal { a with defers := { target := .collected w.heap.size, args := #[] } :: a.defers } W)
    (hstop : ∀ (c : Code) (k : Nat) (W : World), w.heap.size + 1 < W.heap.size → k < N → Ix c k W → W.heap[w.heap.size]? = some (.deferred (some [])) → c.wp P Q { a with defers := { target := .collected w.heap.size, args := #[] } :: a.defers } W) :
    (Code.rangeFunc g ps assign body).wp P Q a w :=
  wp_range hg eg hit hps hT I Ix hI hIx hM hA h0 hM0 (fun W ht _ => hM1 W ht) (fun args => { tmps := (((ps.zip args).foldl (fun t (p, v) => t.setIfInBounds p v) a.tmps).setIfInBounds q0 (args.getD 0 undef)).setIfInBounds q1 (args.getD 1 undef), defers := [] })
    hassign hbody hdone hstop
theorem Old.turned {w W W' : World} {S : List Nat} (h : Old w W) (ht : Turn S W W') (hS : ∀ t ∈ S, w.heap.size ≤ t) : Old w W' :=
  ((Turn.of_below [] h).trans ht (fun x hx => .inr (hS x hx))).below
/-- The return out of the loop, where the result lies in a cell. -/
theorem ret_cell {P : Program} {fn : Func} {R : Ending → World → Prop} {a : Act} {W : World} {D : Nat} {v : Value} (hd : a.defers = [{ target := .collected D, args := #[] }]) (hK : W.heap[D]? = some (.deferred (some [])))
    (hres : (results fn a.tmps).run P (W.putObj D (.deferred none)) = .ok v (W.putObj D (.deferred none))) (hR : R (.returned v) (W.putObj D (.deferred none))) : bodyPostM Fence.wide 3 P fn R .ret a W := by
  show LeavesInM Fence.wide 3 P fn a.tmps R a.defers .returning W
  rw [hd]
  exact ⟨by simp, .inl ⟨_, _, rfl, run_takeDeferred hK, _, hres, hR⟩⟩
theorem res_cell {fn : Func} {p : Tmp} {tmps : Array Value} {w : World} {g : Nat} {x : Bool} (h : fn.results = #[.cell p 4]) (hp : tmps.getD p undef = .pointer (some ⟨g, 0, none⟩)) (hb : Blk w g 4 #[.bool x]) :
    (results fn tmps).run Tryd.prog w = .ok (.bool x) w := by
  have hc := hb.cell 0
  simp only [List.getElem?_toArray, List.getElem?_cons_zero] at hc
  have hp' : tmps[p]?.getD undef = .pointer (some ⟨g, 0, none⟩) := by simpa using hp
  simp [results, h, hp', asAddr]
  have hu := Tryd.underlying4
  go_simp
theorem region_roundOld {P : Program} {ops : Array Oper} {Q : Exit → Act → World → Prop} {n l : Nat} {id : Nat} {a : Act} {w : World} (hd : noDefer ops = true) (hL : ¬ LetsOut Q) (hm : P.follows .mixedOrders = true)
    (h : ∀ wd, Old w wd → w.heap.size = wd.heap.size → wpAnyH P .any ops Q (Old w) ops.size (Array.replicate ops.size false) a wd) : (Code.region id ops true).wpIn (Fence.wide.inRound l) n P Q a w :=
  region_round hd hL hm (Old.drew (Old.refl w)) (fun hS => h _ hS rfl)
end Go.Proofs.YtddemlajfbagdaaDoor
