/-
  Rows of no room, wherever they lie: Short, append.
-/
import Derived.Test.YtgkhhinjdojbhaaOpenP
import Derived.Test.YtgkhhinjdojbhaaShort
namespace Go.Proofs.Ytgkhhinjdojbhaa
open Go.RowKit

theorem short_E (A : Option Addr) (m c n : Nat) (l : List UInt8) (w : World) (h : RdE w A m c l) (hn : n ≤ 100000) :
    Calls Try.prog 14 #[.slice A m c, .int .i64 n] w fun e w' => e = .returned (.slice A (min m n) c) ∧ w = w' := by
  rcases h with h | ⟨rfl, rfl, rfl⟩
  · exact short_any A m c n l w h hn
  · have h0 : ¬ ((n : Int) < 0) := by omega
    rw [Nat.zero_min]
    go_enter Try.func14, Try.ntmps14
    go_wp2
    go_ret
    exact ⟨rfl, rfl⟩
theorem RdE.short {w : World} {A : Option Addr} {m c n : Nat} {l : List UInt8} (h : RdE w A m c l) : RdE w A (min m n) c (l.take n) := by
  rcases h with h | ⟨rfl, rfl, rfl⟩
  · exact .inl h.short
  · exact .inr ⟨by simp, rfl, by simp⟩
theorem RdE.len {w : World} {A : Option Addr} {m c : Nat} {l : List UInt8} (h : RdE w A m c l) : m = l.length := by
  rcases h with h | ⟨rfl, rfl, rfl⟩
  · exact h.1
  · rfl
theorem run_append_E (w : World) (base : Nat) (ty : TypeId) (v : Value) (l : List UInt8) (hown : Own w base v l) (A : Option Addr) :
    (Builtin.append_ #[22, 22] ty #[v, .slice A 0 0]).run Try.prog w = .ok v w := by
  obtain ⟨i, hi, hz0, hz1, hz2⟩ := info_parts Try.infoU8
  rcases hown.2 with ⟨rfl, _⟩ | ⟨g, cap, cur, rfl, _, _, hnc, _⟩
  · cases A <;> simp [Builtin.append_, run_underlying Try.underlying22, sizeOf, typeInfo, hi, Builtin.lenOf, Builtin.firstCells, loadCells, loadCellsFrom]
  · cases A <;> simp [Builtin.append_, run_underlying Try.underlying22, sizeOf, typeInfo, hi, Builtin.lenOf, Builtin.firstCells, hnc, storeCells, loadCells, loadCellsFrom]
/-- append of a row that is read or has no room. -/
theorem wp_app2E {ops : Array Oper} {rest : List Oper} {o : Oper} {a : Act} {w : World} {Q : Exit → Act → World → Prop} (s x : Operand) (base : Nat) (v : Value) (l : List UInt8) (hown : Own w base v l) (hbase : base ≤ w.heap.size)
    (A : Option Addr) (m c : Nat) (l2 : List UInt8) (hrd : RdE w A m c l2) (hlen : l.length + l2.length ≤ 140737488351232) (hgd : o.guard = none)
    (ho : o.op = .call { callee := .builtin .append, args := #[s, x], argTypes := #[22, 22] }) (hs : a.eval s = v) (hx : a.eval x = .slice A m c)
    (h : ∀ (A' : Option Addr) (n' c' : Nat) (w' : World), (n' : Int) ≤ 9223372036854775807 → Grew base w w' v A' n' c' (l ++ l2) → wpList Try.prog ops Q rest (a.put o.dst (.slice A' n' c')) w') : wpList Try.prog ops Q (o :: rest) a w := by
  rcases hrd with hrd | ⟨rfl, rfl, rfl⟩
  · exact wp_app2 s x base v l hown hbase A m c l2 hrd hlen hgd ho hs hx h
  · refine wpList_plain hgd fun K hK => ?_
    have hrun := run_append_E w base o.type v l hown A
    unfold Oper.wp
    simp only [execOp, ho, resolve, invoke, builtin, Sem.run_bind, Sem.run_pure, Result.andThen_ok, List.map_toArray, List.map_cons, List.map_nil, hs, hx, hrun]
    obtain ⟨A', n', c', rfl, hn, hg⟩ := grew_of (l2 := []) hown hbase (by rw [List.append_nil]; exact hown) ⟨rfl, rfl, rfl, Nat.le_refl _, fun _ _ _ => rfl⟩ (by simp) (.inl rfl)
    exact hK _ _ (h _ _ _ _ hn hg)
end Go.Proofs.Ytgkhhinjdojbhaa
