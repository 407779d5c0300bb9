/-
  pins: a list of operations that came in; bytes bounded by the bulk.
  Rows of no room, wherever they lie: Short, append.
-/
import Derived.Test.YtdgjjmaiibafhaaDoorRowE
import Derived.Test.YtdgjjmaiibafhaaDoorOpenR
import Derived.Test.YtdgjjmaiibafhaaDoorOpenP
import Derived.Test.YtdgjjmaiibafhaaDoorShort
namespace Go.Proofs.YtdgjjmaiibafhaaDoor
set_option maxRecDepth 100000
open Go.RowKit Go.ChangeShapes Go.WideShapes Go.ChangeAt Go.Deep

/-- An operation. -/
structure OpX where
  kind : Int
  A : Option Addr
  n : Nat
  c : Nat
  l : List UInt8
def Tryd.eX : ETy OpX where
  t := 40
  ts := 30
  sz := 2
  bytes := 32
  z := .agg #[.int .i64 0, .slice none 0 0]
  cells := fun p => [.int .i64 p.kind, .slice p.A p.n p.c]
  len := fun _ => rfl
  one := fun x u hu => by simp at hu; rcases hu with rfl | rfl <;> rfl
  pos := by decide
  zsz := rfl
  small := by decide
  und := Tryd.underlying30
  info := by kernel_rfl
def OpX.ok (W : World) (x : OpX) : Prop := RdE W x.A x.n x.c x.l
section
variable {H : Type} {enc : TypeId × Value → H}
theorem opX_trod {W : World} {n : Nat} {cs : List Value} {y : DataW H × List MemPlace} (h : DataW.trod enc Tryd.prog W 0 (fun _ => true) true n 40 cs = some y) : ∃ x : OpX, cs = Tryd.eX.cells x ∧ x.ok W := by
  obtain ⟨xs, n', _, hx', hlen, hxl, hfl⟩ := DataW.trod_struct Tryd.underlying40 h
  have hC : Tryd.prog.cellsOf 40 = 2 := by kernel_rfl
  have c1 : Tryd.prog.cellsOf 3 = 1 := by kernel_rfl
  have c2 : Tryd.prog.cellsOf 22 = 1 := by kernel_rfl
  match cs, hlen.trans hC with
  | [v0, v1], _ =>
    have hz : ∀ j, j < 2 → ∃ y, xs[j]? = some y := fun j hj => ⟨_, List.getElem?_eq_getElem (by rw [hxl]; exact hj)⟩
    obtain ⟨y0, hy0⟩ := hz 0 (by omega)
    have f0 : DataW.trod enc Tryd.prog W 0 (fun _ => true) true n' 3 (([v0, v1].drop 0).take (Tryd.prog.cellsOf 3)) = some y0 := (hfl 0 _ rfl).trans hy0
    rw [c1] at f0
    obtain ⟨a0, e0, _, w0⟩ := DataW.trod_int Tryd.underlying3 f0
    obtain ⟨y1, hy1⟩ := hz 1 (by omega)
    have f1 : DataW.trod enc Tryd.prog W 0 (fun _ => true) true n' 22 (([v0, v1].drop 1).take (Tryd.prog.cellsOf 22)) = some y1 := (hfl 1 _ rfl).trans hy1
    rw [c2] at f1
    obtain ⟨A, m, c, l, e1, hr⟩ := rdE_trodN (v := v1) f1
    simp at e0
    subst e0 e1
    exact ⟨⟨a0, A, m, c, l⟩, rfl, hr⟩
theorem open_ops21 {W : World} {base : Nat} {v : Value} {d : DataW H} {p : List MemPlace} (hval : Value.okWide Tryd.prog W .any base 30 v) (h : DataW.Trod enc Tryd.prog W 0 (fun _ => true) true 30 v d p) :
    ∃ A m c l, v = .slice A m c ∧ m ≤ maxLen ∧ RdC Tryd.eX W A m l ∧ ∀ x ∈ l, x.ok W := by
  obtain ⟨A, m, c, l, h1, h2, _, h3⟩ := open_sliceE Tryd.eX (OpX.ok W) (by kernel_rfl) (fun n cs y h => opX_trod h) (fun x => ⟨_, rfl, .i64, x.kind, .inl rfl⟩) hval h
  exact ⟨A, m, c, l, h1, h2, h3⟩
/-- Bytes that came in, their number bounded by the bulk. -/
theorem open_rdB {W : World} {base : Nat} {v : Value} {d : DataW H} {p : List MemPlace} (hval : Value.okWide Tryd.prog W .any base 22 v) (h : DataW.Trod enc Tryd.prog W 0 (fun _ => true) true 22 v d p)
    (hw : ∀ q ∈ d.weights Tryd.prog 22, q ≤ reachBytes) : ∃ A m c l, v = .slice A m c ∧ m ≤ 140737488351232 ∧ Rd W A m c l := by
  obtain ⟨A, m, c, l, rfl, hr⟩ := open_rd hval h
  refine ⟨A, m, c, l, rfl, ?_, hr⟩
  obtain ⟨fuel, hf⟩ := h
  rcases open_slice Tryd.underlying22 hf with ⟨hcs, _⟩ | ⟨a, len, cap, m', n, D, Pl, hcs, _, hl, hm, hmm, hx, _⟩
  · simp [Value.cells] at hcs
    obtain ⟨rfl, rfl, rfl⟩ := hcs
    omega
  · simp [Value.cells] at hcs
    obtain ⟨rfl, rfl, rfl⟩ := hcs
    have h1 := hw ((((List.range m).map D).length + ((List.range (m' - m)).map fun j => D (m + j)).length) * Tryd.prog.bytesOf 5) (by
      have hd : d = _ := congrArg Prod.fst hx
      rw [hd]; simp [DataW.weights, Tryd.underlying22])
    rw [show Tryd.prog.bytesOf 5 = 1 from by kernel_rfl] at h1
    simp at h1
    unfold reachBytes at h1
    omega
end
end Go.Proofs.YtdgjjmaiibafhaaDoor
namespace Go.Proofs.YtdgjjmaiibafhaaDoor
open Go.RowKit

theorem short_E (A : Option Addr) (m c n : Nat) (l : List UInt8) (w : World) (h : RdE w A m c l) (hn : n ≤ 100000) :
    Calls Tryd.prog 7 #[.slice A m c, .int .i64 n] w fun e w' => e = .returned (.slice A (min m n) c) ∧ w = w' := by
  rcases h with h | ⟨rfl, rfl, rfl⟩
  · exact short_any A m c n l w h hn
  · have h0 : ¬ ((n : Int) < 0) := by omega
    rw [Nat.zero_min]
    go_enter Tryd.func7, Tryd.ntmps7
    go_wp2
    go_ret
    exact ⟨rfl, rfl⟩
theorem RdE.short {w : World} {A : Option Addr} {m c n : Nat} {l : List UInt8} (h : RdE w A m c l) : RdE w A (min m n) c (l.take n) := by
  rcases h with h | ⟨rfl, rfl, rfl⟩
  · exact .inl h.short
  · exact .inr ⟨by simp, rfl, by simp⟩
theorem RdE.len {w : World} {A : Option Addr} {m c : Nat} {l : List UInt8} (h : RdE w A m c l) : m = l.length := by
  rcases h with h | ⟨rfl, rfl, rfl⟩
  · exact h.1
  · rfl
theorem run_append_E (w : World) (base : Nat) (ty : TypeId) (v : Value) (l : List UInt8) (hown : Own w base v l) (A : Option Addr) :
    (Builtin.append_ #[22, 22] ty #[v, .slice A 0 0]).run Tryd.prog w = .ok v w := by
  obtain ⟨i, hi, hz0, hz1, hz2⟩ := info_parts Tryd.infoU8
  rcases hown.2 with ⟨rfl, _⟩ | ⟨g, cap, cur, rfl, _, _, hnc, _⟩
  · cases A <;> simp [Builtin.append_, run_underlying Tryd.underlying22, sizeOf, typeInfo, hi, Builtin.lenOf, Builtin.firstCells, loadCells, loadCellsFrom]
  · cases A <;> simp [Builtin.append_, run_underlying Tryd.underlying22, sizeOf, typeInfo, hi, Builtin.lenOf, Builtin.firstCells, hnc, storeCells, loadCells, loadCellsFrom]
/-- append of a row that is read or has no room. -/
theorem wp_app2E {ops : Array Oper} {rest : List Oper} {o : Oper} {a : Act} {w : World} {Q : Exit → Act → World → Prop} (s x : Operand) (base : Nat) (v : Value) (l : List UInt8) (hown : Own w base v l) (hbase : base ≤ w.heap.size)
    (A : Option Addr) (m c : Nat) (l2 : List UInt8) (hrd : RdE w A m c l2) (hlen : l.length + l2.length ≤ 140737488355328) (hgd : o.guard = none)
    (ho : o.op = .call { callee := .builtin .append, args := #[s, x], argTypes := #[22, 22] }) (hs : a.eval s = v) (hx : a.eval x = .slice A m c)
    (h : ∀ (A' : Option Addr) (n' c' : Nat) (w' : World), (n' : Int) ≤ 9223372036854775807 → Grew base w w' v A' n' c' (l ++ l2) → wpList Tryd.prog ops Q rest (a.put o.dst (.slice A' n' c')) w') : wpList Tryd.prog ops Q (o :: rest) a w := by
  rcases hrd with hrd | ⟨rfl, rfl, rfl⟩
  · exact wp_app2 s x base v l hown hbase A m c l2 hrd hlen hgd ho hs hx h
  · refine wpList_plain hgd fun K hK => ?_
    have hrun := run_append_E w base o.type v l hown A
    unfold Oper.wp
    simp only [execOp, ho, resolve, invoke, builtin, Sem.run_bind, Sem.run_pure, Result.andThen_ok, List.map_toArray, List.map_cons, List.map_nil, hs, hx, hrun]
    obtain ⟨A', n', c', rfl, hn, hg⟩ := grew_of (l2 := []) hown hbase (by rw [List.append_nil]; exact hown) ⟨rfl, rfl, rfl, Nat.le_refl _, fun _ _ _ => rfl⟩ (by simp) (.inl rfl)
    exact hK _ _ (h _ _ _ _ hn hg)
end Go.Proofs.YtdgjjmaiibafhaaDoor
