/-
  Rows of one's own, whatever their elements: append.
-/
import Derived.Test.YtgjnmpjimhbfgaaGreatDoorZzEqB
import Derived.Test.YtgjnmpjimhbfgaaGreatDoorInround
import Derived.Test.YtgjnmpjimhbfgaaGreatDoorZzRangeH
namespace Go.Proofs.YtgjnmpjimhbfgaaGreatDoor
set_option maxRecDepth 100000
open Go.RowKit
structure ETy (α : Type) where
 t : TypeId
 ts : TypeId
 sz : Nat
 bytes : Nat
 z : Value
 cells : α → List Value
 len : ∀ x, (cells x).length = sz
 one : ∀ x, ∀ u ∈ cells x, u.oneCell' = true
 pos : 0 < sz
 zsz : z.cells.size = sz
 small : bytes ≤ 1000
 und : Tryz.prog.underlying ts = some (.slice t)
 info : (Tryz.prog.info? t).map (fun i => (i.zero, i.size, i.bytes)) = some (some z, sz, bytes)
def ETy.all {α : Type} (E : ETy α) (l : List α) : List Value := l.flatMap E.cells
section
variable {α : Type} (E : ETy α)
theorem ETy.all_append (a b : List α) : E.all (a ++ b) = E.all a ++ E.all b := List.flatMap_append
theorem ETy.all_one (a : α) : E.all [a] = E.cells a := by simp [ETy.all]
theorem ETy.all_nil : E.all [] = [] := rfl
theorem ETy.all_len : ∀ l : List α, (E.all l).length = l.length * E.sz
 | [] => by simp [ETy.all]
 | x :: l => by
  have := ETy.all_len l
  unfold ETy.all at this ⊢
  rw [List.flatMap_cons, List.length_append, this, E.len, List.length_cons, Nat.succ_mul, Nat.add_comm]
theorem ETy.all_one' (l : List α) : ∀ u ∈ E.all l, u.oneCell' = true := by
 intro u hu
 unfold ETy.all at hu
 obtain ⟨x, _, hx⟩ := List.mem_flatMap.1 hu
 exact E.one x u hx
theorem ETy.all_get : ∀ (l : List α) (j : Nat) (x : α), l[j]? = some x → ∀ i, i < E.sz → (E.all l)[j * E.sz + i]? = (E.cells x)[i]?
 | [], j, x, h, _, _ => by simp at h
 | y :: l, 0, x, h, i, hi => by
  simp at h; subst h
  unfold ETy.all
  rw [List.flatMap_cons, Nat.zero_mul, Nat.zero_add, List.getElem?_append_left (by rw [E.len]; exact hi)]
 | y :: l, j + 1, x, h, i, hi => by
  have := ETy.all_get l j x (by simpa using h) i hi
  unfold ETy.all at this ⊢
  rw [List.flatMap_cons, List.getElem?_append_right (by rw [E.len, Nat.succ_mul]; omega), E.len, ← this]
  congr 1
  rw [Nat.succ_mul]; omega
def OwnE (W : World) (base : Nat) (v : Value) (l : List α) : Prop := W.ownsRow base E.t E.sz v l.length (E.all l)
end
section
variable {α : Type} {E : ETy α} {w w' : World} {base : Nat} {v : Value} {l : List α}
theorem OwnE.nil (w : World) (base : Nat) : OwnE E w base (.slice none 0 0) [] := World.ownsRow_nil _ _ _ _
theorem OwnE.keep (h : OwnE E w base v l) (hk : ∀ g, v.ownBlock = some g → w'.heap[g]? = w.heap[g]?) : OwnE E w' base v l := by
 obtain ⟨h1, h2⟩ := h
 refine ⟨h1, ?_⟩
 rcases h2 with h2 | ⟨g, cap, cur, rfl, hg, hh, r⟩
 ·exact .inl h2
 ·exact .inr ⟨g, cap, cur, rfl, hg, (hk g rfl).trans hh, r⟩
theorem OwnE.lt (h : OwnE E w base v l) {g : Nat} (hg : v.ownBlock = some g) : base ≤ g ∧ g < w.heap.size := World.ownsRow.lt h g hg
theorem OwnE.turn {S : List Nat} (h : OwnE E w base v l) (ht : Turn S w w') (hn : ∀ g, v.ownBlock = some g → g ∉ S) : OwnE E w' base v l :=
 h.keep fun g hg => ht.block g (h.lt hg).2 (hn g hg)
theorem OwnE.below (h : OwnE E w base v l) (hb : Below w.heap.size w w') : OwnE E w' base v l := h.keep fun g hg => hb.block g (h.lt hg).2
theorem OwnE.mono {base' : Nat} (h : OwnE E w base v l) (hb : base' ≤ base) : OwnE E w base' v l := by
 obtain ⟨h1, h2⟩ := h
 refine ⟨h1, ?_⟩
 rcases h2 with h2 | ⟨g, cap, cur, rfl, hg, r⟩
 ·exact .inl h2
 ·exact .inr ⟨g, cap, cur, rfl, Nat.le_trans hb hg, r⟩
theorem OwnE.len {A : Option Addr} {n c : Nat} (h : OwnE E w base (.slice A n c) l) : n = l.length := by
 obtain ⟨h1, h2⟩ := h
 rcases h2 with ⟨e, h0⟩ | ⟨g, cap, cur, e, hg, r⟩
 ·injection e with _ e2 _; omega
 ·injection e with _ e2 _
theorem OwnE.form (h : OwnE E w base v l) : ∃ A n c, v = .slice A n c := by
 obtain ⟨h1, h2⟩ := h
 rcases h2 with ⟨e, h0⟩ | ⟨g, cap, cur, e, hg, r⟩
 ·exact ⟨_, _, _, e⟩
 ·exact ⟨_, _, _, e⟩
theorem OwnE.max {A : Option Addr} {n c : Nat} (h : OwnE E w base (.slice A n c) l) : n ≤ maxLen ∧ n ≤ c ∧ c ≤ maxLen := by
 obtain ⟨h1, h2⟩ := h
 rcases h2 with ⟨e, h0⟩ | ⟨g, cap, cur, e, hg, hh, hnc, hmx, r⟩
 ·injection e with _ e2 e3
  subst e2 e3
  exact ⟨Nat.zero_le _, Nat.le_refl _, Nat.zero_le _⟩
 ·injection e with _ e2 e3
  subst e3
  rw [e2]
  exact ⟨Nat.le_trans hnc hmx, hnc, hmx⟩
theorem OwnE.ne (h : OwnE E w base v l) {g : Nat} {t : TypeId} {cs : Array Value} (hg : Blk w g t cs) (ht : t ≠ E.t) : v.ownBlock ≠ some g := by
 obtain ⟨h1, h2⟩ := h
 rcases h2 with ⟨rfl, _⟩ | ⟨g', cap, cur, rfl, _, hh, r⟩
 ·simp [Value.ownBlock]
 ·intro e
  cases e
  exact Blk.ne_ (t := E.t) (t' := t) hh hg (Ne.symm ht) rfl
theorem OwnE.blk (h : OwnE E w base v l) {g : Nat} (hg : v.ownBlock = some g) : ∃ cs, Blk w g E.t cs := by
 obtain ⟨h1, h2⟩ := h
 rcases h2 with ⟨rfl, _⟩ | ⟨g', cap, cur, rfl, _, hh, r⟩
 ·simp [Value.ownBlock] at hg
 ·cases hg
  exact ⟨_, hh⟩
def RdC (E : ETy α) (W : World) (A : Option Addr) (m : Nat) (l : List α) : Prop :=
 l.length = m ∧ (m = 0 ∨ ∃ g off, A = some ⟨g, off, none⟩ ∧ g < W.heap.size ∧ ∀ j u, (E.all l)[j]? = some u → W.cell? ⟨g, off + j, none⟩ = some u)
theorem OwnE.rd {A : Option Addr} {n c : Nat} (h : OwnE E w base (.slice A n c) l) : RdC E w A n l := by
 have hl := h.len
 refine ⟨hl.symm, ?_⟩
 have h0 := h
 obtain ⟨h1, h2⟩ := h
 rcases h2 with ⟨e, h0⟩ | ⟨g, cap, cur, e, hg, hh, hnc, hmx, r⟩
 ·left; injection e
 ·right
  injection e with e1 e2 e3
  refine ⟨g, 0, e1, (h0.lt (g := g) (by rw [e1]; rfl)).2, fun j u hu => ?_⟩
  have := World.ownsRow.cells h0 (g := g) (by rw [e1]; rfl) j u hu
  rw [Addr.add_mid] at this
  exact this
theorem RdC.keep {A : Option Addr} {m : Nat} (h : RdC E w A m l) (hs : w.heap.size ≤ w'.heap.size) (hk : ∀ ad, A = some ad → w'.heap[ad.block]? = w.heap[ad.block]?) : RdC E w' A m l := by
 obtain ⟨h1, h2⟩ := h
 refine ⟨h1, ?_⟩
 rcases h2 with h2 | ⟨g, off, rfl, hg, hc⟩
 ·exact .inl h2
 ·exact .inr ⟨g, off, rfl, Nat.lt_of_lt_of_le hg hs, fun j u hu => (World.cell?_of_block (a := ⟨g, off + j, none⟩) (hk ⟨g, off, none⟩ rfl)).trans (hc j u hu)⟩
theorem RdC.below {A : Option Addr} {m : Nat} (h : RdC E w A m l) (hb : Below w.heap.size w w') : RdC E w' A m l := by
 obtain ⟨h1, h2⟩ := h
 refine ⟨h1, ?_⟩
 rcases h2 with h2 | ⟨g, off, rfl, hg, hc⟩
 ·exact .inl h2
 ·exact .inr ⟨g, off, rfl, Nat.lt_of_lt_of_le hg hb.size, fun j u hu => (World.cell?_of_block (a := ⟨g, off + j, none⟩) (hb.block _ hg)).trans (hc j u hu)⟩
theorem RdC.turn {S : List Nat} {A : Option Addr} {m : Nat} (h : RdC E w A m l) (ht : Turn S w w') (hn : ∀ ad, A = some ad → ad.block ∉ S) : RdC E w' A m l := by
 obtain ⟨h1, h2⟩ := h
 refine ⟨h1, ?_⟩
 rcases h2 with h2 | ⟨g, off, rfl, hg, hc⟩
 ·exact .inl h2
 ·exact .inr ⟨g, off, rfl, Nat.lt_of_lt_of_le hg ht.size, fun j u hu => (World.cell?_of_block (a := ⟨g, off + j, none⟩) (ht.block _ hg (hn ⟨g, off, none⟩ rfl))).trans (hc j u hu)⟩
theorem RdC.at_ {A : Option Addr} {m : Nat} (h : RdC E w A m l) {j : Nat} {x : α} (hj : l[j]? = some x) : ∃ g off, A = some ⟨g, off, none⟩ ∧ g < w.heap.size ∧ ∀ i, i < E.sz → w.cell? ⟨g, off + (j * E.sz + i), none⟩ = (E.cells x)[i]? := by
 obtain ⟨h1, h2⟩ := h
 have hjl : j < l.length := by
  rcases Nat.lt_or_ge j l.length with h | h
  ·exact h
  ·rw [List.getElem?_eq_none h] at hj; cases hj
 rcases h2 with h2 | ⟨g, off, hA, hg, hc⟩
 ·omega
 ·refine ⟨g, off, hA, hg, fun i hi => ?_⟩
  have hl := E.len x
  obtain ⟨u, hu⟩ : ∃ u, (E.cells x)[i]? = some u := ⟨_, List.getElem?_eq_getElem (by rw [hl]; exact hi)⟩
  rw [hu]
  exact hc _ _ (by rw [E.all_get l j x hj i hi]; exact hu)
structure GrewE (E : ETy α) (base : Nat) (w w' : World) (v : Value) (A : Option Addr) (n c : Nat) (l : List α) : Prop where
 own : OwnE E w' base (.slice A n c) l
 below : Below base w w'
 grown : w.grownBy w' v.ownBlock
 at_ : (Value.slice A n c).ownBlock = v.ownBlock ∨ (Value.slice A n c).ownBlock = some w.heap.size
end
theorem run_append_nilE {α : Type} (E : ETy α) (w : World) (base : Nat) (ty : TypeId) (v : Value) (l : List α) (hown : OwnE E w base v l) :
  (Builtin.append_ #[E.ts, E.ts] ty #[v, .slice none 0 0]).run Tryz.prog w = .ok v w := by
 obtain ⟨i, hi, hz0, hz1, hz2⟩ := info_parts E.info
 rcases hown.2 with ⟨rfl, _⟩ | ⟨g, cap, cur, rfl, _, _, hnc, _⟩
 ·simp [Builtin.append_, run_underlying E.und, sizeOf, typeInfo, hi, Builtin.lenOf, Builtin.firstCells]
 ·simp [Builtin.append_, run_underlying E.und, sizeOf, typeInfo, hi, Builtin.lenOf, Builtin.firstCells, hnc, storeCells, loadCells]
section
variable {α : Type} (E : ETy α) {ops : Array Oper} {o : Oper} {a : Act} {w : World} {K : Act → World → Prop} {Q : Exit → Act → World → Prop}
theorem op_appE (s x : Operand) (base : Nat) (v : Value) (l : List α) (hown : OwnE E w base v l) (hbase : base ≤ w.heap.size)
  (A : Option Addr) (m c : Nat) (l2 : List α) (hrd : RdC E w A m l2) (hnil : A = none → c = 0) (hlen : l.length + l2.length ≤ 1000000)
  (ho : o.op = .call { callee := .builtin .append, args := #[s, x], argTypes := #[E.ts, E.ts] }) (hs : a.eval s = v) (hx : a.eval x = .slice A m c)
  (h : ∀ (A' : Option Addr) (n' c' : Nat) (w' : World), GrewE E base w w' v A' n' c' (l ++ l2) → K (a.put o.dst (.slice A' n' c')) w') : Oper.wp Tryz.prog o a w K Q := by
 obtain ⟨i0, hi, hz0, hz1, hz2⟩ := info_parts E.info
 obtain ⟨hm, hsrc⟩ := hrd
 have hb := E.small
 have key : (∃ v' w', (Builtin.append_ #[E.ts, E.ts] o.type #[v, .slice A m c]).run Tryz.prog w = .ok v' w' ∧ w'.ownsRow base E.t E.sz v' (l.length + l2.length) (E.all l ++ E.all l2) ∧ w.grownBy w' v.ownBlock ∧ (v'.ownBlock = v.ownBlock ∨ v'.ownBlock = some w.heap.size)) := by
  have hbytes : (l.length + l2.length) * E.bytes ≤ 140737488355328 := Nat.le_trans (Nat.mul_le_mul hlen hb) (by decide)
  cases A with
  | none =>
   have hc := hnil rfl
   have hm0 : m = 0 := by
    rcases hsrc with h | ⟨g, off, h, _⟩
    ·exact h
    ·cases h
   subst hc hm0
   have hl2 : l2 = [] := List.eq_nil_of_length_eq_zero hm
   subst hl2
   exact ⟨v, w, run_append_nilE E w base o.type v l hown, by rw [E.all_nil, List.append_nil]; exact hown, ⟨rfl, rfl, rfl, Nat.le_refl _, fun _ _ _ => rfl⟩, .inl rfl⟩
  | some ad =>
   obtain ⟨v', w', hr, ho', hg, hn, hbl⟩ := run_append_own_at (P := Tryz.prog) w base E.ts o.type E.t i0 _ E.sz E.bytes E.und hi hz0 hz1 hz2 E.zsz E.pos v l.length (E.all l) hown ad m c (E.all l2) (by rw [E.all_len, hm])
    (fun j u hu => by
     rcases hsrc with h0 | ⟨g, off, h0, _, h4⟩
     ·have hl2 : l2 = [] := List.eq_nil_of_length_eq_zero (hm.trans h0)
      subst hl2
      simp [ETy.all] at hu
     ·injection h0 with h0
      subst h0
      rw [Addr.add_mid]
      exact h4 j u hu) (E.all_one' l2) (by unfold maxLen; omega) (by rw [← hm]; exact hbytes) hbase
   exact ⟨v', w', hr, by rw [hm]; exact ho', hg, hbl⟩
 obtain ⟨v', w', hr, ho', hg, hbl⟩ := key
 unfold Oper.wp
 simp only [execOp, ho, resolve, invoke, builtin, Sem.run_bind, Sem.run_pure, Result.andThen_ok, List.map_toArray, List.map_cons, List.map_nil, hs, hx, hr]
 have hfin : ∃ A' n' c', v' = .slice A' n' c' := by
  obtain ⟨_, h | ⟨g, cap, cur, e, _⟩⟩ := ho'
  ·exact ⟨_, _, _, h.1⟩
  ·exact ⟨_, _, _, e⟩
 obtain ⟨A', n', c', rfl⟩ := hfin
 refine h A' n' c' w' ⟨?_, (Below.refl base w).grown hg hbase (fun k hk => (hown.lt hk).1), hg, hbl⟩
 unfold OwnE
 rw [E.all_append, List.length_append]
 exact ho'
theorem wp_appE {rest : List Oper} (s x : Operand) (base : Nat) (v : Value) (l : List α) (hown : OwnE E w base v l) (hbase : base ≤ w.heap.size)
  (A : Option Addr) (m c : Nat) (l2 : List α) (hrd : RdC E w A m l2) (hnil : A = none → c = 0) (hlen : l.length + l2.length ≤ 1000000) (hgd : o.guard = none)
  (ho : o.op = .call { callee := .builtin .append, args := #[s, x], argTypes := #[E.ts, E.ts] }) (hs : a.eval s = v) (hx : a.eval x = .slice A m c)
  (h : ∀ (A' : Option Addr) (n' c' : Nat) (w' : World), GrewE E base w w' v A' n' c' (l ++ l2) → wpList Tryz.prog ops Q rest (a.put o.dst (.slice A' n' c')) w') : wpList Tryz.prog ops Q (o :: rest) a w :=
 wpList_plain hgd fun _K hK => op_appE E s x base v l hown hbase A m c l2 hrd hnil hlen ho hs hx (fun A' n' c' w' hg => hK _ _ (h A' n' c' w' hg))
theorem step_appE {F : Prop} (s x : Operand) (base : Nat) (v : Value) (l : List α) (hown : OwnE E w base v l) (hbase : base ≤ w.heap.size)
  (A : Option Addr) (m c : Nat) (l2 : List α) (hrd : RdC E w A m l2) (hnil : A = none → c = 0) (hlen : l.length + l2.length ≤ 1000000) (hgd : o.guard = none)
  (ho : o.op = .call { callee := .builtin .append, args := #[s, x], argTypes := #[E.ts, E.ts] }) (hs : a.eval s = v) (hx : a.eval x = .slice A m c)
  (h : ∀ (A' : Option Addr) (n' c' : Nat) (w' : World), GrewE E base w w' v A' n' c' (l ++ l2) → K (a.put o.dst (.slice A' n' c')) w') : if Region.wanted o (yielded ops a.tmps) = true then Oper.wp Tryz.prog o a w K Q else F := by
 rw [if_pos (by simp [Region.wanted, hgd])]
 exact op_appE E s x base v l hown hbase A m c l2 hrd hnil hlen ho hs hx h
end
theorem Blk.rdC {α : Type} (E : ETy α) {w : World} {g : Nat} {x : α} {cs : Array Value} (h : Blk w g E.t cs) (hc : cs.toList = E.cells x) : RdC E w (some ⟨g, 0, none⟩) 1 [x] := by
 refine ⟨rfl, .inr ⟨g, 0, rfl, h.lt, fun j u hu => ?_⟩⟩
 rw [E.all_one, ← hc] at hu
 rw [Nat.zero_add, h.cell, ← Array.getElem?_toList]
 exact hu
theorem wp_range2 (q0 q1 : Nat) {P : Program} {g : Operand} {ps : Array Tmp} {assign body : Code} {Q : Exit → Act → World → Prop} {a : Act} {w : World}
  {gf : Nat} {lb : Array Value} {Arg : Nat → Array Value → World → Prop} {Mine : Nat → World → Prop} {N : Nat} {T : List Nat}
  (hg : a.eval g = .func (.func gf) #[] lb) (eg : ∀ args w, (callFunc gf args).run P w = .ok (.enter gf args) w)
  (hit : Iter P gf lb Arg Mine N T) (hps : ∀ k args W, Arg k args W → args.size = ps.size) (hT : ∀ t ∈ T, t < w.heap.size)
  (I : Nat → World → Prop) (Ix : Code → Nat → World → Prop)
  (hI : ∀ k W1 W2 S, I k W1 → Turn S W1 W2 → (∀ t ∈ S, t ∈ T ∨ (t = w.heap.size + 1 ∧ ∃ r, W1.heap[t]? = some (.loop r))) → I k W2)
  (hIx : ∀ c k W1 W2 S, Ix c k W1 → Turn S W1 W2 → (∀ t ∈ S, t ∈ T ∨ (t = w.heap.size + 1 ∧ ∃ r, W1.heap[t]? = some (.loop r))) → Ix c k W2)
  (hM : ∀ k W1 W2, Mine k W1 → (∃ r, W1.heap[w.heap.size + 1]? = some (.loop r)) → Turn [w.heap.size + 1] W1 W2 → Mine k W2)
  (hA : ∀ k args W1 W2, Arg k args W1 → (∃ r, W1.heap[w.heap.size + 1]? = some (.loop r)) → Turn [w.heap.size + 1] W1 W2 → Arg k args W2)
  (h0 : I 0 w) (hM0 : Mine 0 w) (hM1 : ∀ W, Turn [] w W → Mine 0 W)
  (hassign : ∀ (l : Nat) (args : Array Value) (k : Nat) (W : World) (K : Act → World → Prop), Arg k args W →
   K { tmps := (((ps.zip args).foldl (fun t (p, v) => t.setIfInBounds p v) a.tmps).setIfInBounds q0 (args.getD 0 undef)).setIfInBounds q1 (args.getD 1 undef), defers := [] } W →
   assign.wpIn (Fence.wide.inRound l) 2 P (Exit.then K (fun _ _ _ => False)) { tmps := (ps.zip args).foldl (fun t (p, v) => t.setIfInBounds p v) a.tmps, defers := [] } W)
  (hbody : ∀ (l k : Nat) (args : Array Value) (W : World), k < N → w.heap.size + 1 < W.heap.size → I k W → Mine k W → Arg k args W →
   body.wpIn (Fence.wide.inRound l) 2 P (roundEnds w.heap.size I Ix Mine k W) { tmps := (((ps.zip args).foldl (fun t (p, v) => t.setIfInBounds p v) a.tmps).setIfInBounds q0 (args.getD 0 undef)).setIfInBounds q1 (args.getD 1 undef), defers := [] } W)
  (hdone : ∀ (W : World), w.heap.size + 1 < W.heap.size → I N W → W.heap[w.heap.size]? = some (.deferred (some [])) → Q .normal { a with defers := { target := .collected w.heap.size, args := #[] } :: a.defers } W)
  (hstop : ∀ (c : Code) (k : Nat) (W : World), w.heap.size + 1 < W.heap.size → k < N → Ix c k W → W.heap[w.heap.size]? = some (.deferred (some [])) → c.wp P Q { a with defers := { target := .collected w.heap.size, args := #[] } :: a.defers } W) :
  (Code.rangeFunc g ps assign body).wp P Q a w :=
 wp_range hg eg hit hps hT I Ix hI hIx hM hA h0 hM0 (fun W ht _ => hM1 W ht) (fun args => { tmps := (((ps.zip args).foldl (fun t (p, v) => t.setIfInBounds p v) a.tmps).setIfInBounds q0 (args.getD 0 undef)).setIfInBounds q1 (args.getD 1 undef), defers := [] })
  hassign hbody hdone hstop
theorem ret_cell {P : Program} {fn : Func} {R : Ending → World → Prop} {a : Act} {W : World} {D : Nat} {v : Value} (hd : a.defers = [{ target := .collected D, args := #[] }]) (hK : W.heap[D]? = some (.deferred (some [])))
  (hres : (results fn a.tmps).run P (W.putObj D (.deferred none)) = .ok v (W.putObj D (.deferred none))) (hR : R (.returned v) (W.putObj D (.deferred none))) : bodyPostM Fence.wide 3 P fn R .ret a W := by
 show LeavesInM Fence.wide 3 P fn a.tmps R a.defers .returning W
 rw [hd]
 exact ⟨by simp, .inl ⟨_, _, rfl, run_takeDeferred hK, _, hres, hR⟩⟩
theorem res_cell {fn : Func} {p : Tmp} {tmps : Array Value} {w : World} {g : Nat} {x : Bool} (h : fn.results = #[.cell p 4]) (hp : tmps.getD p undef = .pointer (some ⟨g, 0, none⟩)) (hb : Blk w g 4 #[.bool x]) :
  (results fn tmps).run Tryz.prog w = .ok (.bool x) w := by
 have hc := hb.cell 0
 simp only [List.getElem?_toArray, List.getElem?_cons_zero] at hc
 have hp' : tmps[p]?.getD undef = .pointer (some ⟨g, 0, none⟩) := by simpa using hp
 simp [results, h, hp', asAddr]
 have hu := Tryz.underlying4
 go_simp
theorem region_roundOld {P : Program} {ops : Array Oper} {Q : Exit → Act → World → Prop} {n l : Nat} {id : Nat} {a : Act} {w : World} (hd : noDefer ops = true) (hL : ¬ LetsOut Q) (hm : P.follows .mixedOrders = true)
  (h : ∀ wd, Old w wd → w.heap.size = wd.heap.size → wpAnyH P .any ops Q (Old w) ops.size (Array.replicate ops.size false) a wd) : (Code.region id ops true).wpIn (Fence.wide.inRound l) n P Q a w :=
 region_round hd hL hm (Old.drew (Old.refl w)) (fun hS => h _ hS rfl)
end Go.Proofs.YtgjnmpjimhbfgaaGreatDoor
