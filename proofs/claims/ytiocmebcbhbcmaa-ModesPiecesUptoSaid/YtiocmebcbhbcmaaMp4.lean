/-
  Modes: what stands between two pieces that the law reads.
-/
import Derived.Test.YtiocmebcbhbcmaaZzOpU
import Derived.Test.YtiocmebcbhbcmaaZzOpU
import Derived.Test.YtiocmebcbhbcmaaZzRange2
import Derived.Test.YtiocmebcbhbcmaaMw7
namespace Go.Proofs.Ytiocmebcbhbcmaa
set_option maxRecDepth 100000
open Go.RowKit

theorem wpListIn_app2r {ops : Array Oper} {rest : List Oper} {o : Oper} {a : Act} {w : World} {Q : Exit → Act → World → Prop} {n l' : Nat} (s x : Operand) (base : Nat) (v : Value) (l : List UInt8) (hown : Own w base v l) (hbase : base ≤ w.heap.size)
    (A : Option Addr) (m c : Nat) (l2 : List UInt8) (hrd : Rd w A m c l2) (hlen : l.length + l2.length ≤ 140737488355328) (hgd : o.guard = none)
    (ho : o.op = .call { callee := .builtin .append, args := #[s, x], argTypes := #[22, 22] }) (hs : a.eval s = v) (hx : a.eval x = .slice A m c)
    (h : ∀ (A' : Option Addr) (n' c' : Nat) (w' : World), (n' : Int) ≤ 9223372036854775807 → Grew base w w' v A' n' c' (l ++ l2) → wpListIn (Fence.wide.inRound l') n Try.prog ops Q rest (a.put o.dst (.slice A' n' c')) w') : wpListIn (Fence.wide.inRound l') n Try.prog ops Q (o :: rest) a w :=
  wpListIn_plain hgd fun _ hK => oper_round (by rw [ho]; intro c hc'; cases hc') (op_app s x ho base v l hs hown A m c l2 hx hrd hlen hbase fun v' w' h1 h2 h3 h4 => by
    obtain ⟨A', n', c', rfl, hn, hg⟩ := grew_of hown hbase h1 h2 h3 h4
    exact hK _ _ (h _ _ _ _ hn hg))
/-- What stands between two pieces: the result's cell, what came out so far, the text and what is wanted. -/
structure LCI (w : World) (D R O : Nat) (A1 : Option Addr) (n1 c1 : Nat) (al : List UInt8) (A2 : Option Addr) (n2 c2 : Nat) (want got : List UInt8) (G : List Nat) (W : World) (A3 : Option Addr) (n3 c3 : Nat) : Prop where
  r : Blk W R 4 #[.bool false]
  o : Blk W O 22 #[.slice A3 n3 c3]
  own : Own W (D + 2) (.slice A3 n3 c3) got
  a1 : Rd W A1 n1 c1 al
  a2 : Rd W A2 n2 c2 want
  og : ∀ g, (Value.slice A3 n3 c3).ownBlock = some g → g ∉ G
  rg : R ∉ G ∧ O ∉ G ∧ (∀ ad, A1 = some ad → ad.block ∉ G) ∧ (∀ ad, A2 = some ad → ad.block ∉ G)
  lt : R < D ∧ O < D ∧ R ≠ O ∧ w.heap.size ≤ R ∧ w.heap.size ≤ O ∧ (∀ ad, A1 = some ad → ad.block < D) ∧ (∀ ad, A2 = some ad → ad.block < D)
  old : Old w W
  gl : ∀ x ∈ G, w.heap.size ≤ x
  DW : w.heap.size ≤ D
section
variable {w W W2 : World} {D R O : Nat} {A1 A2 A3 : Option Addr} {n1 c1 n2 c2 n3 c3 : Nat} {al want got : List UInt8} {G : List Nat}
/-- The iterator's own steps. -/
theorem LCI.step (h : LCI w D R O A1 n1 c1 al A2 n2 c2 want got G W A3 n3 c3) {G2 : List Nat} (ht : Turn G W W2) (h2 : ∀ x ∈ G2, x ∈ G ∨ W.heap.size ≤ x) : LCI w D R O A1 n1 c1 al A2 n2 c2 want got G2 W2 A3 n3 c3 := by
  have l1 := h.r.lt
  have l2 := h.o.lt
  have hn : ∀ x, x < W.heap.size → x ∉ G → x ∉ G2 := fun x hx hg hm => by
    rcases h2 x hm with h' | h'
    · exact hg h'
    · omega
  exact ⟨h.r.turn ht h.rg.1, h.o.turn ht h.rg.2.1, h.own.turn ht (fun g hg => h.og g hg), h.a1.turn ht (fun ad e => h.rg.2.2.1 ad e), h.a2.turn ht (fun ad e => h.rg.2.2.2 ad e), fun g hg => hn g (h.own.lt hg).2 (h.og g hg),
    ⟨hn _ l1 h.rg.1, hn _ l2 h.rg.2.1, fun ad e => hn _ (h.a1.lt ad e) (h.rg.2.2.1 ad e), fun ad e => hn _ (h.a2.lt ad e) (h.rg.2.2.2 ad e)⟩, h.lt, below_turn h.old ht (fun t hm => h.gl t hm) h.old.size,
    fun x hx => by rcases h2 x hx with h' | h'; exact h.gl x h'; have := h.old.size; omega, h.DW⟩
/-- The loop's book-keeping. -/
theorem LCI.book (h : LCI w D R O A1 n1 c1 al A2 n2 c2 want got G W A3 n3 c3) (ht : Turn [D + 1] W W2) : LCI w D R O A1 n1 c1 al A2 n2 c2 want got G W2 A3 n3 c3 := by
  obtain ⟨m1, m2, m3, m4, m5, m6, m7⟩ := h.lt
  have hd := h.DW
  exact ⟨h.r.turn ht (by simp; omega), h.o.turn ht (by simp; omega), h.own.turn ht (fun g hg => by have := (h.own.lt hg).1; simp; omega), h.a1.turn ht (fun ad e => by have := m6 ad e; simp; omega), h.a2.turn ht (fun ad e => by have := m7 ad e; simp; omega), h.og, h.rg, h.lt,
    below_turn h.old ht (fun t hm => by simp at hm; omega) h.old.size, h.gl, h.DW⟩
/-- A piece is put behind what came out. -/
theorem LCI.next (h : LCI w D R O A1 n1 c1 al A2 n2 c2 want got G W A3 n3 c3) {p : List UInt8} {A4 : Option Addr} {n4 c4 : Nat} (hG : Grew (D + 2) W W2 (.slice A3 n3 c3) A4 n4 c4 (got ++ p)) (hD : D + 1 < W.heap.size) (hgb : ∀ x ∈ G, x < W.heap.size) :
    LCI w D R O A1 n1 c1 al A2 n2 c2 want (got ++ p) G (W2.setCell ⟨O, 0, none⟩ (.slice A4 n4 c4)) A4 n4 c4 ∧ KeepsG D G w.heap.size W (W2.setCell ⟨O, 0, none⟩ (.slice A4 n4 c4)) := by
  obtain ⟨m1, m2, m3, m4, m5, m6, m7⟩ := h.lt
  have hd := h.DW
  have hT : Turn (O :: (Value.slice A3 n3 c3).ownBlock.toList) W (W2.setCell ⟨O, 0, none⟩ (.slice A4 n4 c4)) :=
    ((Turn.of_grown hG.grown).more (fun x hx => List.mem_cons_of_mem _ hx)).setCell (.inl (by simp)) _
  have hbig : ∀ x ∈ (Value.slice A3 n3 c3).ownBlock.toList, D + 2 ≤ x := fun x hx => (h.own.lt (show _ = some x by simpa using hx)).1
  have hT2 : Turn (Value.slice A3 n3 c3).ownBlock.toList W W2 := Turn.of_grown hG.grown
  have hTO : Turn [O] W2 (W2.setCell ⟨O, 0, none⟩ (.slice A4 n4 c4)) := (Turn.refl _ _).setCell (.inl (by simp)) _
  have hown4 : ∀ g, (Value.slice A4 n4 c4).ownBlock = some g → D + 2 ≤ g := fun g hg => (hG.own.lt hg).1
  have hO2 := h.o.turn hT2 (fun hm' => by have := hbig _ hm'; omega)
  refine ⟨⟨?_, hO2.set_ 0 _, hG.own.turn hTO (fun g hg => by have := hown4 g hg; simp; omega), ?_, ?_, fun g hg => ?_, h.rg, h.lt, ?_, h.gl, h.DW⟩, ⟨_, hT, ?_, ?_, fun x hx => ?_⟩⟩
  · exact (h.r.turn hT2 (fun hm' => by have := hbig _ hm'; omega)).turn hTO (by simpa using m3)
  · have k1 := h.a1.turn hT2 (fun ad e hm' => by have := hbig _ hm'; have := m6 ad e; omega)
    exact k1.turnB hTO (fun g hg => by simp at hg; subst hg; exact NoB.of hO2 rfl)
  · have k1 := h.a2.turn hT2 (fun ad e hm' => by have := hbig _ hm'; have := m7 ad e; omega)
    exact k1.turnB hTO (fun g hg => by simp at hg; subst hg; exact NoB.of hO2 rfl)
  · rcases hG.at_ with h2 | h2
    · rw [h2] at hg; exact h.og g hg
    · rw [h2] at hg; cases hg; exact fun hm => by have := hgb _ hm; omega
  · exact below_turn h.old hT (fun t hm' => by
      rcases List.mem_cons.1 hm' with rfl | hm'
      · exact m5
      · have := hbig t hm'; omega) h.old.size
  · intro hm'
    rcases List.mem_cons.1 hm' with e | hm'
    · omega
    · have := hbig _ hm'; omega
  · intro hm'
    rcases List.mem_cons.1 hm' with e | hm'
    · omega
    · have := hbig _ hm'; omega
  · rcases List.mem_cons.1 hx with rfl | hx
    · exact ⟨h.rg.2.1, m5⟩
    · exact ⟨h.og x (by simpa using hx), by have := hbig x hx; omega⟩
end
end Go.Proofs.Ytiocmebcbhbcmaa
