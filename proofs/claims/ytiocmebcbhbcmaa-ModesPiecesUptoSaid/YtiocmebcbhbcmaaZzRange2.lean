/-
  The iterator of a cipher's round keys.
  A region that draws its order, in a round of a range over a function: what is shown of it plainly holds in the round. Over any program.
  A range over a function of two results; what a return out of it asks. Copies of words of the hashes' seat.
-/
import Derived.Test.YtiocmebcbhbcmaaZzRange
import Derived.OwnWalkIn
import Derived.RangeFuncBound
import Derived.RangeFuncCalls
import Derived.TacticsInMore
import Derived.LoopNIn
import Derived.LoopIn
import Derived.Deep.RegionHeld3
import Derived.RegionIn
import Derived.Test.YtiocmebcbhbcmaaZzReg
namespace Go.Proofs.Ytiocmebcbhbcmaa
open Go.RowKit
attribute [local go_sem] Oper.semAt_some

theorem wpListIn_load_mid {F : Fence} {n : Nat} {P : Program} {w : World} {ops : Array Oper} {rest : List Oper} {op : Oper} {a : Act} {Q : Exit → Act → World → Prop} (hgd : op.guard = none) (ty : TypeId) (x : Operand) (ho : op.op = .load ty x)
    (b o : Nat) (hx : a.eval x = .pointer (some ⟨b, o, none⟩)) (cs : List Value) (d : TypeDesc) (hc : w.rangeAt b o cs)
    (hu : P.underlying ty = some d) (hd : d.isRow = true) (hi : (P.info? ty).map (·.size) = some cs.length)
    (h : wpListIn F n P ops Q rest (a.put op.dst (.agg cs.toArray)) w) : wpListIn F n P ops Q (op :: rest) a w := by
  refine wpListIn_plain hgd fun K hK => ?_
  unfold Oper.wpIn
  refine ⟨?_, ?_⟩
  · simp [Oper.about, ho]
  · rw [Oper.semAt_plain F _ _ (by rw [ho]; intro c hc'; cases hc')]
    simp only [execOp, ho, hx, Instr.loadAt, Instr.sureAddr, Sem.run_bind, Sem.run_pure, Result.andThen_ok, run_loadVar_mid w b o ty cs d hc hu hd hi]
    exact hK _ _ h
/-- append of bytes to nil, in a fenced region. -/
theorem wpListIn_app_nil {F : Fence} {n : Nat} {ops : Array Oper} {rest : List Oper} {o : Oper} {a : Act} {w : World} {Q : Exit → Act → World → Prop} (hgd : o.guard = none) (x : Operand) (base : Nat) (hbase : base ≤ w.heap.size)
    (A : Option Addr) (m c : Nat) (l2 : List UInt8) (hrd : Rd w A m c l2) (hm : 0 < m) (hlen : l2.length ≤ 140737488351232)
    (ho : o.op = .call { callee := .builtin .append, args := #[.const (.slice none 0 0), x], argTypes := #[22, 22] }) (hx : a.eval x = .slice A m c)
    (h : ∀ (A' : Option Addr) (n' c' : Nat) (w' : World), (n' : Int) ≤ 9223372036854775807 → Grew base w w' (.slice none 0 0) A' n' c' ([] ++ l2) → wpListIn F n Try.prog ops Q rest (a.put o.dst (.slice A' n' c')) w') : wpListIn F n Try.prog ops Q (o :: rest) a w := by
  obtain ⟨i0, hi, hz0, hz1, hz2⟩ := info_parts Try.infoU8
  have hrd' := hrd
  obtain ⟨h1, h2, h3, _⟩ := hrd
  obtain ⟨b, off, rfl, h4⟩ := hrd'.addr hm
  obtain ⟨v', w', hrun, ho', hg, hn, hb⟩ := run_append_own_at (P := Try.prog) w base 22 o.type 5 i0 (.int .u8 0) 1 1 Try.underlying22 hi hz0 hz1 hz2 rfl (by decide) (.slice none 0 0) 0 [] (World.ownsRow_nil _ _ _ _) ⟨b, off, none⟩ m c (l2.map B) (by simp [h1])
    h4.adds (map_one _) (by unfold maxLen; omega) (by omega) hbase
  have hown : Own w' base v' ([] ++ l2) := by
    unfold Own
    rw [List.nil_append, ← h1]
    simpa using ho'
  obtain ⟨A', n', c', rfl, hn', hG⟩ := grew_of (l := []) (l2 := l2) (Own.nil w base) hbase hown hg (by rw [hn, ← List.length_eq_zero_iff, ← h1]) hb
  refine wpListIn_plain hgd fun K hK => ?_
  unfold Oper.wpIn
  refine ⟨?_, ?_⟩
  · simp [Oper.about, ho, resolve, Target.leads, Sem.run_pure]
  · rw [Oper.semAt_plain F _ _ (by rw [ho]; intro c hc'; cases hc')]
    have hs0 : a.eval (.const (.slice none 0 0)) = .slice none 0 0 := rfl
    simp [execOp, ho, resolve, invoke, builtin, hs0, hx, hrun, Result.andThen]
    exact hK _ _ (h A' n' c' w' hn' hG)
def keyArg (ks : List UInt8) (base k : Nat) (args : Array Value) (W : World) : Prop := ∃ A cq, args = #[.int .i64 (k : Int), .slice A 16 cq] ∧ Rd W A 16 cq (key ks k) ∧ ∀ ad, A = some ad → base ≤ ad.block
def keyMine (kb b0 c : Nat) (ks : List UInt8) (K R cp base : Nat) (_ : Nat) (W : World) : Prop := Blk W kb 56 #[.pointer (some ⟨c, 0, none⟩)] ∧ Cip W b0 c ks K R cp ∧ base ≤ W.heap.size ∧ kb < base ∧ c < base ∧ K < base
theorem keyMine.turn {kb b0 c : Nat} {ks : List UInt8} {K R cp base k : Nat} {S : List Nat} {W W' : World} (h : keyMine kb b0 c ks K R cp base k W) (ht : Turn S W W') (hS : ∀ t ∈ S, base ≤ t) (k' : Nat) : keyMine kb b0 c ks K R cp base k' W' := by
  obtain ⟨h1, h2, h3, h4, h5, h6⟩ := h
  have hn : ∀ x, x < base → x ∉ S := fun x hx hm => by have := hS x hm; omega
  refine ⟨h1.turn ht (hn _ h4), ?_, Nat.le_trans h3 ht.size, h4, h5, h6⟩
  obtain ⟨c1, c2, c3, c4, c5, c6, c7, c8, c9, c10, c11⟩ := h2
  refine ⟨⟨c1.1, c1.2.1, c1.2.2.turn ht (hn _ h5)⟩, c2, c3, Nat.lt_of_lt_of_le c4 ht.size, c5, c6, c7, c8, c9, c10, fun j x hx => ?_⟩
  rw [World.cell?_of_block (a := ⟨K, j, none⟩) (ht.block K c4 (hn _ h6))]; exact c11 j x hx
set_option maxRecDepth 100000 in
set_option maxHeartbeats 1000000 in
theorem keys_iter (kb b0 c : Nat) (ks : List UInt8) (K R cp base : Nat) :
    Iter Try.prog 84 #[.pointer (some ⟨kb, 0, none⟩)] (keyArg ks base) (keyMine kb b0 c ks K R cp base) R [] := by
  intro l' J Jx W hJ hJx hY h0 hM
  refine callsIn_of_wp Try.func84 rfl trivial ?_ rfl
  simp only [Try.ntmps84, List.size_toArray, List.length_cons, List.length_nil, Nat.reduceAdd, Nat.reduceSub, Array.replicate_succ, Array.replicate_zero, List.push_toArray, List.append_toArray, List.nil_append, List.cons_append]
  have hbc := hM.1.cell 0
  simp at hbc
  have c0 : W.cell? ⟨c, 0, none⟩ = some (.slice (some ⟨K, 0, none⟩) R cp) := by rw [hM.2.1.1.2.2.cell 0]; rfl
  have hR1 : 11 ≤ R := hM.2.1.2.2.2.2.2.2.1
  have hR2 : R ≤ 15 := hM.2.1.2.2.2.2.2.2.2.1
  have hks : ks.length = 16 * R := hM.2.1.2.2.2.2.2.1
  have HM := Lib.hid hM
  have HY := Lib.hid hY
  clear hM hY
  gi_wp2
  gi_loopw [12] (fun i wr => ∃ k : Nat, k ≤ R ∧ i = .int .i64 (k : Int) ∧ J k wr ∧ keyMine kb b0 c ks K R cp base k wr) (fun i _ => R - (intOf i).toNat)
  case atStart => exact ⟨0, by omega, rfl, h0, HM.out⟩
  case round =>
    obtain ⟨k, hk, rfl, hJk, hM⟩ := hrel
    clear hbc c0 h0
    by_cases hlt : k < R
    · have hq : (k : Int) < R := by omega
      have hrd := hM.2.1.rd k hlt
      have hkl := key_len ks R k hks hlt
      obtain ⟨y0, y1, y2, y3, y4, y5, y6, y7, y8, y9, y10, y11, y12, y13, y14, y15, hl16⟩ := list16 (key ks k) hkl
      have hrng : wr.rangeAt K (k * 16) [B y0, B y1, B y2, B y3, B y4, B y5, B y6, B y7, B y8, B y9, B y10, B y11, B y12, B y13, B y14, B y15] := fun j v hv => by
        have hv' : ((key ks k).map B)[j]? = some v := by rw [hl16]; exact hv
        rw [List.getElem?_map] at hv'
        obtain ⟨x, hx, rfl⟩ := Option.map_eq_some_iff.1 hv'
        obtain ⟨b, off, e, ha⟩ := hrd.addr (by omega)
        cases e
        exact ha.2 j x hx
      have hSt : St (wr.alloc (.cells #[B y0, B y1, B y2, B y3, B y4, B y5, B y6, B y7, B y8, B y9, B y10, B y11, B y12, B y13, B y14, B y15] 74)) wr.heap.size (key ks k) := by rw [hl16]; exact ⟨rfl, Blk.new _ _ _⟩
      have hT1 : Turn [] wr (wr.alloc (.cells #[B y0, B y1, B y2, B y3, B y4, B y5, B y6, B y7, B y8, B y9, B y10, B y11, B y12, B y13, B y14, B y15] 74)) := (Turn.refl _ _).alloc _
      have HK := Lib.hid (And.intro hrng (And.intro hSt (And.intro hT1 (And.intro hM (And.intro hJk hkl)))))
      clear hrng hSt hT1 hM hJk hkl hl16 hrd hk
      gi_wp2_with (first | (refine wpListIn_load_mid rfl 74 (.tmp 15) rfl K (k * 16) rfl [B y0, B y1, B y2, B y3, B y4, B y5, B y6, B y7, B y8, B y9, B y10, B y11, B y12, B y13, B y14, B y15] _ HK.out.1 Try.underlying74 rfl rfl ?_) | (gi_at_builtin; go_must (refine wpListIn_app_nil rfl (.tmp 19) base (by have := HK.out.2.2.2.1.2.2.1; simp; omega) (some ⟨wr.heap.size, 0, none⟩) 16 16 (key ks k) HK.out.2.1.rd (by omega) (by rw [HK.out.2.2.2.2.2]; omega) rfl rfl ?_); intro A1 n1 c1 w2 hi1 hG; have hn16 : n1 = 16 := hG.len.trans HK.out.2.2.2.2.2; subst hn16; have hT2 : Turn [] wr w2 := HK.out.2.2.1.trans (Turn.of_grown hG.grown) (fun x hx => by simp [Value.ownBlock] at hx); obtain ⟨fn, tmps, assign, body, hy, hR⟩ := HY.out k #[.int .i64 k, .slice A1 16 c1] w2 hlt (hJ k _ _ HK.out.2.2.2.2.1 hT2) (HK.out.2.2.2.1.turn hT2 (by simp) k) ⟨A1, c1, rfl, hG.own.rd, hG.own.addr_ge⟩; have HR := Lib.hid hR; clear hR hG))
      refine HR.out.mono ?_
      rintro e W' (⟨rfl, hJ', hM'⟩ | ⟨rfl, hJx'⟩)
      · have HM2 := Lib.hid (And.intro hJ' hM')
        clear hJ' hM'
        gi_wp2
        go_roundw
        case rel => exact ⟨k + 1, by omega, by go_num, HM2.out.1, HM2.out.2⟩
        case measure => simp [intOf]; omega
      · gi_wp2
        refine bodyPost_ret (results_none rfl _ _ _) rfl ?_
        exact ⟨⟨_, rfl⟩, .inr ⟨_, hlt, hJx'⟩⟩
    · obtain rfl : k = R := by omega
      have hq : ¬ ((k : Int) < k) := by omega
      have HJ := Lib.hid hJk
      clear hJk hM hk hlt
      gi_wp2
      go_end0
      exact ⟨⟨_, rfl⟩, .inl HJ.out⟩
end Go.Proofs.Ytiocmebcbhbcmaa
namespace Go.Proofs.Ytiocmebcbhbcmaa
open Go.RowKit

section
variable {P : Program} {ops : Array Oper} {Q : Exit → Act → World → Prop} {n l : Nat}
theorem oper_round {o : Oper} {a : Act} {w : World} {K : Act → World → Prop} (hd : ∀ c, o.op ≠ .defer c) (h : o.wp P a w K Q) : o.wpIn (Fence.wide.inRound l) n P a w K Q := by
  refine ⟨fun _ _ => trivial, ?_⟩
  rw [Oper.semAt_eq _ _ _ hd]
  unfold Oper.wp at h
  generalize (execOp a.eval o).run P w = r at *
  cases r with
  | ok x w' =>
    cases x with
    | value v => exact h
    | skip => exact h
    | defer d => exact h
    | enter f args => exact ⟨fun hs => by simp [Fence.wide, Fence.inRound] at hs, callsIn_wide.2 h⟩
    | row r args => exact ⟨fun hs => by simp [Fence.wide, Fence.inRound] at hs, fun c cs _ => let ⟨v, w'', hr, s⟩ := h c cs; ⟨v, w'', hr, stepsIn_wide.2 s⟩⟩
    | _ => exact h.elim
  | halt x w' => cases x <;> first | exact h | exact h.elim
theorem ops_round (hd : ∀ (j : Nat) (o : Oper) c, ops[j]? = some o → o.op ≠ .defer c) (hL : ¬ LetsOut Q) :
    ∀ (is : List Nat) (a : Act) (w : World), wpOps P ops Q is a w → wpOpsIn (Fence.wide.inRound l) n P ops Q is a w
  | [], _, _, h => h
  | i :: is, a, w, h => by
    unfold wpOps at h
    unfold wpOpsIn
    cases ho : ops[i]? with
    | none => rw [ho] at h; exact ops_round hd hL is a w h
    | some o =>
      rw [ho] at h
      dsimp only at h ⊢
      split
      · rename_i hw
        rw [if_pos hw] at h
        rcases h with h | h
        · exact Oper.wpIn_mono (fun a w h => ops_round hd hL is a w h) (oper_round (fun c => hd i o c ho) h)
        · exact absurd h.2 hL
      · rename_i hw
        rw [if_neg hw] at h
        exact ⟨fun _ _ => trivial, ops_round hd hL is _ w h⟩
def noDefer (ops : Array Oper) : Bool := ops.all fun o => match o.op with | .defer _ => false | _ => true
theorem noDefer_spec (h : noDefer ops = true) (j : Nat) (o : Oper) (c : Call) (hj : ops[j]? = some o) : o.op ≠ .defer c := by
  intro he
  unfold noDefer at h
  rw [Array.all_eq_true] at h
  obtain ⟨hlt, rfl⟩ := Array.getElem?_eq_some_iff.1 hj
  have := h j hlt
  rw [he] at this
  simp at this
theorem region_round {id : Nat} {a : Act} {w : World} (hd : noDefer ops = true) (hL : ¬ LetsOut Q) (hm : P.follows .mixedOrders = true) {S : World → Prop} (hS : S w.drew)
    (h : S w.drew → wpAnyH P .any ops Q S ops.size (Array.replicate ops.size false) a w.drew) : (Code.region id ops true).wpIn (Fence.wide.inRound l) n P Q a w :=
  wpIn_region_draw fun t => by
    simp only [Region.schedule, hm, Bool.true_or, if_true]
    exact ops_round (noDefer_spec hd) hL _ _ _ (wpAny_sound ops.size t _ a _ (wpAny_of_held _ _ _ _ (h hS)))
end
end Go.Proofs.Ytiocmebcbhbcmaa
namespace Go.Proofs.Ytiocmebcbhbcmaa
open Go.RowKit

theorem wp_range2 (q0 q1 : Nat) {P : Program} {g : Operand} {ps : Array Tmp} {assign body : Code} {Q : Exit → Act → World → Prop} {a : Act} {w : World}
    {gf : Nat} {lb : Array Value} {Arg : Nat → Array Value → World → Prop} {Mine : Nat → World → Prop} {N : Nat} {T : List Nat}
    (hg : a.eval g = .func (.func gf) #[] lb) (eg : ∀ args w, (callFunc gf args).run P w = .ok (.enter gf args) w)
    (hit : Iter P gf lb Arg Mine N T) (hps : ∀ k args W, Arg k args W → args.size = ps.size) (hT : ∀ t ∈ T, t < w.heap.size)
    (I : Nat → World → Prop) (Ix : Code → Nat → World → Prop)
    (hI : ∀ k W1 W2 S, I k W1 → Turn S W1 W2 → (∀ t ∈ S, t ∈ T ∨ (t = w.heap.size + 1 ∧ ∃ r, W1.heap[t]? = some (.loop r))) → I k W2)
    (hIx : ∀ c k W1 W2 S, Ix c k W1 → Turn S W1 W2 → (∀ t ∈ S, t ∈ T ∨ (t = w.heap.size + 1 ∧ ∃ r, W1.heap[t]? = some (.loop r))) → Ix c k W2)
    (hM : ∀ k W1 W2, Mine k W1 → (∃ r, W1.heap[w.heap.size + 1]? = some (.loop r)) → Turn [w.heap.size + 1] W1 W2 → Mine k W2)
    (hA : ∀ k args W1 W2, Arg k args W1 → (∃ r, W1.heap[w.heap.size + 1]? = some (.loop r)) → Turn [w.heap.size + 1] W1 W2 → Arg k args W2)
    (h0 : I 0 w) (hM0 : Mine 0 w) (hM1 : ∀ W, Turn [] w W → Mine 0 W)
    (hassign : ∀ (l : Nat) (args : Array Value) (k : Nat) (W : World) (K : Act → World → Prop), Arg k args W →
      K { tmps := (((ps.zip args).foldl (fun t (p, v) => t.setIfInBounds p v) a.tmps).setIfInBounds q0 (args.getD 0 undef)).setIfInBounds q1 (args.getD 1 undef), defers := [] } W →
      assign.wpIn (Fence.wide.inRound l) 2 P (Exit.then K (fun _ _ _ => False)) { tmps := (ps.zip args).foldl (fun t (p, v) => t.setIfInBounds p v) a.tmps, defers := [] } W)
    (hbody : ∀ (l k : Nat) (args : Array Value) (W : World), k < N → w.heap.size + 1 < W.heap.size → I k W → Mine k W → Arg k args W →
      body.wpIn (Fence.wide.inRound l) 2 P (roundEnds w.heap.size I Ix Mine k W) { tmps := (((ps.zip args).foldl (fun t (p, v) => t.setIfInBounds p v) a.tmps).setIfInBounds q0 (args.getD 0 undef)).setIfInBounds q1 (args.getD 1 undef), defers := [] } W)
    (hdone : ∀ (W : World), w.heap.size + 1 < W.heap.size → I N W → W.heap[w.heap.size]? = some (.deferred (some [])) → Q .normal { a with defers := { target := .collected w.heap.size, args := #[] } :: a.defers } W)
    (hstop : ∀ (c : Code) (k : Nat) (W : World), w.heap.size + 1 < W.heap.size → k < N → Ix c k W → W.heap[w.heap.size]? = some (.deferred (some [])) → c.wp P Q { a with defers := { target := .collected w.heap.size, args := #[] } :: a.defers } W) :
    (Code.rangeFunc g ps assign body).wp P Q a w :=
  wp_range hg eg hit hps hT I Ix hI hIx hM hA h0 hM0 (fun W ht _ => hM1 W ht) (fun args => { tmps := (((ps.zip args).foldl (fun t (p, v) => t.setIfInBounds p v) a.tmps).setIfInBounds q0 (args.getD 0 undef)).setIfInBounds q1 (args.getD 1 undef), defers := [] })
    hassign hbody hdone hstop
theorem Old.turned {w W W' : World} {S : List Nat} (h : Old w W) (ht : Turn S W W') (hS : ∀ t ∈ S, w.heap.size ≤ t) : Old w W' :=
  ((Turn.of_below [] h).trans ht (fun x hx => .inr (hS x hx))).below
/-- The return out of the loop, where the result lies in a cell. -/
theorem ret_cell {P : Program} {fn : Func} {R : Ending → World → Prop} {a : Act} {W : World} {D : Nat} {v : Value} (hd : a.defers = [{ target := .collected D, args := #[] }]) (hK : W.heap[D]? = some (.deferred (some [])))
    (hres : (results fn a.tmps).run P (W.putObj D (.deferred none)) = .ok v (W.putObj D (.deferred none))) (hR : R (.returned v) (W.putObj D (.deferred none))) : bodyPostM Fence.wide 3 P fn R .ret a W := by
  show LeavesInM Fence.wide 3 P fn a.tmps R a.defers .returning W
  rw [hd]
  exact ⟨by simp, .inl ⟨_, _, rfl, run_takeDeferred hK, _, hres, hR⟩⟩
theorem res_cell {fn : Func} {p : Tmp} {tmps : Array Value} {w : World} {g : Nat} {x : Bool} (h : fn.results = #[.cell p 4]) (hp : tmps.getD p undef = .pointer (some ⟨g, 0, none⟩)) (hb : Blk w g 4 #[.bool x]) :
    (results fn tmps).run Try.prog w = .ok (.bool x) w := by
  have hc := hb.cell 0
  simp only [List.getElem?_toArray, List.getElem?_cons_zero] at hc
  have hp' : tmps[p]?.getD undef = .pointer (some ⟨g, 0, none⟩) := by simpa using hp
  simp [results, h, hp', asAddr]
  have hu := Try.underlying4
  go_simp
theorem region_roundOld {P : Program} {ops : Array Oper} {Q : Exit → Act → World → Prop} {n l : Nat} {id : Nat} {a : Act} {w : World} (hd : noDefer ops = true) (hL : ¬ LetsOut Q) (hm : P.follows .mixedOrders = true)
    (h : ∀ wd, Old w wd → w.heap.size = wd.heap.size → wpAnyH P .any ops Q (Old w) ops.size (Array.replicate ops.size false) a wd) : (Code.region id ops true).wpIn (Fence.wide.inRound l) n P Q a w :=
  region_round hd hL hm (Old.drew (Old.refl w)) (fun hS => h _ hS rfl)
end Go.Proofs.Ytiocmebcbhbcmaa
