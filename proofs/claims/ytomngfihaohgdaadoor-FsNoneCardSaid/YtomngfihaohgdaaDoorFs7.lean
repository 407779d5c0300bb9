/-
  blockfs: a map of rows of bytes.
-/
import Derived.Test.YtomngfihaohgdaaDoorFs6
import Derived.Maps.OwnSet
namespace Go.Proofs.YtomngfihaohgdaaDoor
set_option maxRecDepth 100000
open Go.RowKit Go.Maps

def wf64 (a : Int) : Prop := (Lit.int .i64 a).wf = true
theorem wf64_small {a : Int} (h0 : 0 ≤ a) (h1 : a ≤ 1000000) : wf64 a := by
  unfold wf64 Lit.wf
  have e : IntKind.i64.min = -9223372036854775808 := by decide
  simp
  rw [e]
  omega
def elV (v : Value) : Option (DataW Value × List MemPlace) := some (.held v, [])
/-- Block b is a map of at most n rows: f. -/
def BMap (W : World) (b n : Nat) (f : Int → Option Value) : Prop :=
  ∃ D : DataW Value, W.ownsMap Tryd.prog 3 elV b n D ∧ ∀ x, wf64 x → Maps.has D (.int .i64 x) = (f x).isSome ∧ ∀ u, f x = some u → ∀ z, D.atKey (.int .i64 x) z = .held u
theorem BMap.made (w : World) : BMap (w.alloc (.map #[] 0)) w.heap.size 0 (fun _ => none) := ⟨_, World.ownsMap_made _ _ _ _, fun x _ => ⟨rfl, fun u h => by cases h⟩⟩
theorem BMap.lt {W : World} {b n : Nat} {f : Int → Option Value} (h : BMap W b n f) : b < W.heap.size := by obtain ⟨D, h, _⟩ := h; exact h.lt
theorem BMap.mono {W : World} {b n n' : Nat} {f : Int → Option Value} (h : BMap W b n f) (hn : n ≤ n') : BMap W b n' f := by obtain ⟨D, h, h2⟩ := h; exact ⟨D, h.mono hn, h2⟩
theorem BMap.keep {W W' : World} {b n : Nat} {f : Int → Option Value} (h : BMap W b n f) (hk : W'.heap[b]? = W.heap[b]?) : BMap W' b n f := by
  obtain ⟨D, ⟨es, clock, hb, h1⟩, h2⟩ := h
  exact ⟨D, ⟨es, clock, hk.trans hb, h1⟩, h2⟩
theorem BMap.turn {W W' : World} {b n : Nat} {f : Int → Option Value} (h : BMap W b n f) {S : List Nat} (ht : Turn S W W') (hS : b ∉ S) : BMap W' b n f := h.keep (ht.block b h.lt hS)
theorem BMap.obj {W : World} {b n : Nat} {f : Int → Option Value} (h : BMap W b n f) : ∃ es clock, W.heap[b]? = some (.map es clock) := by
  obtain ⟨D, ⟨es, clock, hb, h1⟩, h2⟩ := h
  exact ⟨es, clock, hb⟩
theorem BMap.ne {W : World} {b n : Nat} {f : Int → Option Value} (h : BMap W b n f) {g : Nat} {t : TypeId} {cs : Array Value} (hg : Blk W g t cs) : b ≠ g := by
  rintro rfl
  obtain ⟨es, clock, hb⟩ := h.obj
  have : W.heap[b]? = some (.cells cs t) := hg
  rw [hb] at this
  cases this
theorem zeroB (w : World) : (zeroValue 40).run Tryd.prog w = .ok (.slice none 0 0) w := by kernel_rfl
theorem keyB : Keyed Tryd.prog 3 := int_keyed Tryd.underlying3
theorem BMap.look {W : World} {b n : Nat} {f : Int → Option Value} (h : BMap W b n f) (x : Int) (hx : wf64 x) :
    (Instr.lookup 81 (.map (some b)) (.int .i64 x) true).run Tryd.prog W = .ok (.tuple #[(f x).getD (.slice none 0 0), .bool (f x).isSome]) W := by
  obtain ⟨D, h1, h2⟩ := h
  obtain ⟨hh, hu⟩ := h2 x hx
  obtain ⟨v, ps, hrun, hv⟩ := h1.look_ok keyB Tryd.underlying81 (zeroB W) (zd := .held (.slice none 0 0)) (zp := []) rfl (keyOf_int_mk Tryd.underlying3 hx)
  rw [hrun, hh]
  unfold elV at hv
  injection hv with hv
  injection hv with hv _
  congr 3
  cases hf : f x with
  | none =>
    rw [hf] at hh
    rw [Maps.atKey_of_not_has hh] at hv
    injection hv with hv
    rw [hv]; rfl
  | some u =>
    rw [hu u hf] at hv
    injection hv with hv
    rw [hv]; rfl
def putB (f : Int → Option Value) (x : Int) (u : Value) : Int → Option Value := fun a => if a = x then some u else f a
theorem puttedB {D : DataW Value} {f : Int → Option Value} (hD : Maps.IsMap D) (h2 : ∀ x, wf64 x → Maps.has D (.int .i64 x) = (f x).isSome ∧ ∀ u, f x = some u → ∀ z, D.atKey (.int .i64 x) z = .held u) (x : Int) (u : Value) :
    ∀ a, wf64 a → Maps.has (D.put (.int .i64 x) (.held u)) (.int .i64 a) = (putB f x u a).isSome ∧ ∀ v, putB f x u a = some v → ∀ z, (D.put (.int .i64 x) (.held u)).atKey (.int .i64 a) z = .held v := by
  intro a ha
  unfold putB
  by_cases he : a = x
  · subst he
    rw [if_pos rfl]
    exact ⟨Maps.has_put_same hD (by simp [WideAt.IsKeyLit]) _, fun v hv z => by injection hv with hv; subst hv; exact Maps.atKey_put_same hD (by simp [WideAt.IsKeyLit]) _ _⟩
  · rw [if_neg he]
    have hne : (Lit.int .i64 a) ≠ .int .i64 x := fun e => he (by injection e)
    exact ⟨by rw [Maps.has_put_other hne]; exact (h2 a ha).1, fun v hv z => by rw [Maps.atKey_put_other hne]; exact (h2 a ha).2 v hv z⟩
theorem Turn.of_map {W W' : World} {b : Nat} (h : W.mapTurned W' b) : Turn [b] W W' := by
  have hg := h.grown
  exact ⟨hg.os, hg.tape, hg.output, hg.size, fun k hk hn => hg.block k hk (fun e => hn (by injection e with e; rw [e]; simp))⟩
theorem BMap.store {W : World} {b n : Nat} {f : Int → Option Value} (h : BMap W b n f) (hn : n < maxLen) (x : Int) (u : Value) (hx : wf64 x) :
    ∃ W', (Instr.mapUpdate 81 (.map (some b)) (.int .i64 x) u).run Tryd.prog W = .ok () W' ∧ BMap W' b (n + 1) (putB f x u) ∧ Turn [b] W W' := by
  obtain ⟨D, h1, h2⟩ := h
  obtain ⟨W', hr, ho, ht⟩ := h1.store keyB Tryd.underlying81 hn (keyOf_int_mk Tryd.underlying3 hx) (d := .held u) (ps := []) rfl
  exact ⟨W', hr, ⟨_, ho, puttedB h1.isMap h2 x u⟩, Turn.of_map ht⟩
/-- A map's store, as an operation. -/
theorem wp_putB {ops : Array Oper} {rest : List Oper} {o : Oper} {a : Act} {w : World} {Q : Exit → Act → World → Prop} (m k v : Operand) (b n : Nat) (f : Int → Option Value) (x : Int) (u : Value) (h : BMap w b n f) (hn : n < maxLen) (hx : wf64 x) (hgd : o.guard = none)
    (ho : o.op = .mapUpdate 81 m k v) (hm : a.eval m = .map (some b)) (hk : a.eval k = .int .i64 x) (hv : a.eval v = u)
    (hK : ∀ w', BMap w' b (n + 1) (putB f x u) → Turn [b] w w' → wpList Tryd.prog ops Q rest (a.put o.dst undef) w') : wpList Tryd.prog ops Q (o :: rest) a w := by
  refine wpList_plain hgd fun K hK' => ?_
  obtain ⟨w', hr, h1, h2⟩ := h.store hn x u hx
  unfold Oper.wp
  simp [execOp, ho, hm, hk, hv, hr, Result.andThen]
  exact hK' _ _ (hK w' h1 h2)
end Go.Proofs.YtomngfihaohgdaaDoor
