/-
  append on bytes, told by one closed word: 'Grew'. And rows of bytes that are written in a loop.
-/
import Derived.Test.YtdgjjmaiibafhaaDoorApp
import Derived.Deep.DeepMust
import Derived.Deep.DrawnRows
namespace Go.Proofs.YtdgjjmaiibafhaaDoor
open Go.RowKit

/-- What an append of bytes has left: the new slice, the row's bytes. -/
structure Grew (base : Nat) (w w' : World) (v : Value) (A : Option Addr) (n c : Nat) (l : List UInt8) : Prop where
  len : n = l.length
  own : Own w' base (.slice A n c) l
  below : Below base w w'
  grown : w.grownBy w' v.ownBlock
  at_ : (Value.slice A n c).ownBlock = v.ownBlock ∨ (Value.slice A n c).ownBlock = some w.heap.size
  nil : Value.slice A n c = .slice none 0 0 → l = []

theorem Own.len {w : World} {base n c : Nat} {A : Option Addr} {l : List UInt8} (h : Own w base (.slice A n c) l) : n = l.length := by
  obtain ⟨A', c', e, _⟩ := h.shape
  cases e; rfl
theorem Own.rd {w : World} {base n c : Nat} {A : Option Addr} {l : List UInt8} (h : Own w base (.slice A n c) l) : Rd w A n c l := by
  obtain ⟨A', c', e, hr, _⟩ := h.shape
  cases e; exact hr
theorem Own.addr_ge {w : World} {base n c : Nat} {A : Option Addr} {l : List UInt8} (h : Own w base (.slice A n c) l) : ∀ ad, A = some ad → base ≤ ad.block := by
  obtain ⟨A', c', e, hr, hb⟩ := h.shape
  cases e; exact hb
theorem Own.alloc_ {w : World} {base : Nat} {v : Value} {l : List UInt8} (h : Own w base v l) (o : Obj) : Own (w.alloc o) base v l := h.below ((Below.refl _ _).alloc (Nat.le_refl _) _)
theorem Own.nil (w : World) (base : Nat) : Own w base (.slice none 0 0) [] := World.ownsRow_nil _ _ _ _

theorem grew_of {w w' : World} {base : Nat} {v v' : Value} {l l2 : List UInt8} (hown : Own w base v l) (hbase : base ≤ w.heap.size) (h1 : Own w' base v' (l ++ l2)) (h2 : w.grownBy w' v.ownBlock) (h3 : v' = .slice none 0 0 ↔ v = .slice none 0 0 ∧ l2 = [])
    (h4 : v'.ownBlock = v.ownBlock ∨ v'.ownBlock = some w.heap.size) : ∃ A n c, v' = .slice A n c ∧ (n : Int) ≤ 9223372036854775807 ∧ Grew base w w' v A n c (l ++ l2) := by
  obtain ⟨A, c, rfl, hr, _⟩ := h1.shape
  have hm := hr.2.1
  have hm2 := hr.2.2.1
  unfold maxLen at hm2
  refine ⟨A, _, c, rfl, by omega, rfl, h1, (Below.refl base w).grown h2 hbase (fun k hk => (hown.lt hk).1), h2, h4, fun e => ?_⟩
  obtain ⟨rfl, rfl⟩ := h3.1 e
  obtain ⟨A', c', e', hr', _⟩ := hown.shape
  injection e' with _ e2 _
  rw [List.append_nil]; exact List.length_eq_zero_iff.1 e2.symm

/-- append of bytes onto a row of the call's own, in a plain region. -/
theorem wp_app2 {ops : Array Oper} {rest : List Oper} {o : Oper} {a : Act} {w : World} {Q : Exit → Act → World → Prop} (s x : Operand) (base : Nat) (v : Value) (l : List UInt8) (hown : Own w base v l) (hbase : base ≤ w.heap.size)
    (A : Option Addr) (m c : Nat) (l2 : List UInt8) (hrd : Rd w A m c l2) (hlen : l.length + l2.length ≤ 140737488355328) (hgd : o.guard = none)
    (ho : o.op = .call { callee := .builtin .append, args := #[s, x], argTypes := #[22, 22] }) (hs : a.eval s = v) (hx : a.eval x = .slice A m c)
    (h : ∀ (A' : Option Addr) (n' c' : Nat) (w' : World), (n' : Int) ≤ 9223372036854775807 → Grew base w w' v A' n' c' (l ++ l2) → wpList Tryd.prog ops Q rest (a.put o.dst (.slice A' n' c')) w') : wpList Tryd.prog ops Q (o :: rest) a w :=
  wp_app hgd s x ho base v l hs hown A m c l2 hx hrd hlen hbase fun v' w' h1 h2 h3 h4 => by
    obtain ⟨A', n', c', rfl, hn, hg⟩ := grew_of hown hbase h1 h2 h3 h4
    exact h _ _ _ _ hn hg
theorem rd_lit {w : World} {l2 : List UInt8} {cs : Array Value} {n : Nat} (hcs : cs = (l2.map B).toArray) (hn : n = l2.length) (hl : n ≤ 1000000) : Rd (w.alloc (.cells cs 5)) (some ⟨w.heap.size, 0, none⟩) n n l2 := by
  subst hcs hn
  exact Rd.of_blk (heap_alloc_new w _) (by unfold maxLen; omega)
/-- append of bytes that stand written out: they lie in a block of their own. -/
theorem wp_app_lit {ops : Array Oper} {rest : List Oper} {o : Oper} {a : Act} {w : World} {Q : Exit → Act → World → Prop} (s x : Operand) (base : Nat) (v : Value) (l : List UInt8) (hown : Own w base v l) (hbase : base ≤ w.heap.size)
    (l2 : List UInt8) (hlen : l.length ≤ 140737488354000) (hl2 : l2.length ≤ 1000) (hgd : o.guard = none)
    (ho : o.op = .call { callee := .builtin .append, args := #[s, x], argTypes := #[22, 22] }) (hs : a.eval s = v) {n : Nat} {cs : Array Value} (hcs : cs = (l2.map B).toArray) (hn : n = l2.length) (hx : a.eval x = .slice (some ⟨w.heap.size, 0, none⟩) n n)
    (h : ∀ (A' : Option Addr) (n' c' : Nat) (w' : World), (n' : Int) ≤ 9223372036854775807 → Grew base (w.alloc (.cells cs 5)) w' v A' n' c' (l ++ l2) → wpList Tryd.prog ops Q rest (a.put o.dst (.slice A' n' c')) w') : wpList Tryd.prog ops Q (o :: rest) a (w.alloc (.cells cs 5)) :=
  wp_app2 s x base v l (hown.alloc_ _) (by simp; omega) _ n n l2 (rd_lit hcs hn (by omega)) (by omega) hgd ho hs hx h
/-- The same as a step of a region that draws. -/
theorem step_app2 {ops : Array Oper} {o : Oper} {a : Act} {w : World} {K : Act → World → Prop} {Q : Exit → Act → World → Prop} {E : Prop} (s x : Operand) (base : Nat) (v : Value) (l : List UInt8) (hown : Own w base v l) (hbase : base ≤ w.heap.size)
    (A : Option Addr) (m c : Nat) (l2 : List UInt8) (hrd : Rd w A m c l2) (hlen : l.length + l2.length ≤ 140737488355328) (hgd : o.guard = none)
    (ho : o.op = .call { callee := .builtin .append, args := #[s, x], argTypes := #[22, 22] }) (hs : a.eval s = v) (hx : a.eval x = .slice A m c)
    (h : ∀ (A' : Option Addr) (n' c' : Nat) (w' : World), (n' : Int) ≤ 9223372036854775807 → Grew base w w' v A' n' c' (l ++ l2) → K (a.put o.dst (.slice A' n' c')) w') :
    if Region.wanted o (yielded ops a.tmps) = true then Oper.wp Tryd.prog o a w K Q else E :=
  step_app hgd s x ho base v l hs hown A m c l2 hx hrd hlen hbase fun v' w' h1 h2 h3 h4 => by
    obtain ⟨A', n', c', rfl, hn, hg⟩ := grew_of hown hbase h1 h2 h3 h4
    exact h _ _ _ _ hn hg
theorem step_app_lit {ops : Array Oper} {o : Oper} {a : Act} {w : World} {K : Act → World → Prop} {Q : Exit → Act → World → Prop} {E : Prop} (s x : Operand) (base : Nat) (v : Value) (l : List UInt8) (hown : Own w base v l) (hbase : base ≤ w.heap.size)
    (l2 : List UInt8) (hlen : l.length ≤ 140737488354000) (hl2 : l2.length ≤ 1000) (hgd : o.guard = none)
    (ho : o.op = .call { callee := .builtin .append, args := #[s, x], argTypes := #[22, 22] }) (hs : a.eval s = v) {n : Nat} {cs : Array Value} (hcs : cs = (l2.map B).toArray) (hn : n = l2.length) (hx : a.eval x = .slice (some ⟨w.heap.size, 0, none⟩) n n)
    (h : ∀ (A' : Option Addr) (n' c' : Nat) (w' : World), (n' : Int) ≤ 9223372036854775807 → Grew base (w.alloc (.cells cs 5)).drew w' v A' n' c' (l ++ l2) → K (a.put o.dst (.slice A' n' c')) w') :
    if Region.wanted o (yielded ops a.tmps) = true then Oper.wp Tryd.prog o a (w.alloc (.cells cs 5)).drew K Q else E :=
  step_app2 s x base v l (show Own (w.alloc (.cells cs 5)).drew base v l from hown.alloc_ _) (by simp; omega) _ n n l2 (show Rd (w.alloc (.cells cs 5)).drew _ _ _ _ from rd_lit hcs hn (by omega)) (by omega) hgd ho hs hx h

/-- What lies below a row's base is kept by an append to it. -/
theorem kept {w1 w2 : World} {v : Value} {base g k : Nat} {l : List UInt8} {u : Value} (hO : Own w1 base v l) (hg : w1.grownBy w2 v.ownBlock) (h : g < base) (hb : base ≤ w1.heap.size) (hc : w1.cell? ⟨g, k, none⟩ = some u) : w2.cell? ⟨g, k, none⟩ = some u := by
  rw [World.cell?_of_block (a := ⟨g, k, none⟩) (hg.block g (by omega) (fun e => by have := (hO.lt e.symm).1; omega))]; exact hc
theorem Grew.kept {base : Nat} {w w' : World} {v : Value} {A : Option Addr} {n c g k : Nat} {l : List UInt8} {u : Value} (h : Grew base w w' v A n c l) (hg : g < base) (hc : w.cell? ⟨g, k, none⟩ = some u) : w'.cell? ⟨g, k, none⟩ = some u :=
  (h.below.cell (p := ⟨g, k, none⟩) hg).trans hc

/-- A row of bytes is written at place k. -/
theorem Own.frozen {w : World} {base g n c : Nat} {l : List UInt8} (h : Own w base (.slice (some ⟨g, 0, none⟩) n c) l) (i : Nat) : w.frozen? ⟨g, i, none⟩ = false := by
  obtain ⟨_, _, _, _, cur, hh, _⟩ := h.blk
  simp [World.frozen?, hh]
theorem Own.set_ {w : World} {base g n c : Nat} {l : List UInt8} (h : Own w base (.slice (some ⟨g, 0, none⟩) n c) l) (k : Nat) (x : UInt8) (_hk : k < n) : Own (w.setCell ⟨g, k, none⟩ (B x)) base (.slice (some ⟨g, 0, none⟩) n c) (l.set k x) := by
  obtain ⟨e0, e1, e2, e3, cur, hh, hcl, htk⟩ := h.blk
  have hb : Blk w g 5 cur.toArray := hh
  have hb2 := hb.set_ k (B x)
  rw [List.setIfInBounds_toArray] at hb2
  have hl : (l.set k x).length = n := by rw [List.length_set]; exact e0.symm
  have := Own.of_cells (l := l.set k x) hb2 e3 (by rw [List.length_set]; exact hcl) e2 (by omega) (by rw [hl, List.take_set, htk, List.map_set])
  rwa [hl] at this
theorem Own.cell {w : World} {base g n c : Nat} {l : List UInt8} (h : Own w base (.slice (some ⟨g, 0, none⟩) n c) l) (k : Nat) (x : UInt8) (hx : l[k]? = some x) : w.cell? ⟨g, k, none⟩ = some (B x) := by
  obtain ⟨h1, h2, h3, ⟨h4, _⟩ | ⟨b, off, h4, h5⟩⟩ := h.rd
  · cases h4
  · cases h4
    have := h5.2 k x hx
    rwa [Nat.zero_add] at this
/-- Bytes that stand written out are a row of their own. -/
theorem own_lit {w : World} {l : List UInt8} {cs : Array Value} {n : Nat} (hcs : cs = (l.map B).toArray) (hn : n = l.length) (hl : l.length ≤ 1000000) : Own (w.alloc (.cells cs 5)) w.heap.size (.slice (some ⟨w.heap.size, 0, none⟩) n n) l := by
  subst hcs hn
  exact Own.of_cells (cur := l.map B) (heap_alloc_new w _) (Nat.le_refl _) (by simp) (by unfold maxLen; omega) (Nat.le_refl _) (by rw [← List.length_map (f := B), List.take_length])
end Go.Proofs.YtdgjjmaiibafhaaDoor
