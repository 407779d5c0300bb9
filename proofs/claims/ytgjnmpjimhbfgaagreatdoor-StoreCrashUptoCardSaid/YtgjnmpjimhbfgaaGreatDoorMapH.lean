/-
  Maps with integer keys, of any element: what such a map holds, look, store, delete, range.
-/
import Derived.Test.YtgjnmpjimhbfgaaGreatDoorZzEqB
import Derived.Maps.OwnSet
import Derived.Maps.RangeWalk
namespace Go.Proofs.YtgjnmpjimhbfgaaGreatDoor
set_option maxRecDepth 100000
open Go.RowKit Go.Maps
structure Tryz.MTy where
 tm : TypeId
 te : TypeId
 z : Value
 und : Tryz.prog.underlying tm = some (.map 3 te)
 zero : ∀ w, (zeroValue te).run Tryz.prog w = .ok z w
def wfI (a : Int) : Prop := (Lit.int .i64 a).wf = true
theorem wfI_in {a : Int} (h0 : -9223372036854775808 ≤ a) (h1 : a ≤ 9223372036854775807) : wfI a := by
 unfold wfI Lit.wf
 have e : IntKind.i64.min = -9223372036854775808 := by decide
 simp
 rw [e]
 omega
def elH (v : Value) : Option (DataW Value × List MemPlace) := some (.held v, [])
def HasH (D : DataW Value) (f : Int → Option Value) : Prop := ∀ x, wfI x → Maps.has D (.int .i64 x) = (f x).isSome ∧ ∀ u, f x = some u → ∀ z, D.atKey (.int .i64 x) z = .held u
def HMap (W : World) (b n : Nat) (f : Int → Option Value) : Prop := ∃ D : DataW Value, W.ownsMap Tryz.prog 3 elH b n D ∧ Maps.size D = n ∧ HasH D f
variable {W W' : World} {b n n' r cnt : Nat} {f g : Int → Option Value}
theorem HMap.made (w : World) : HMap (w.alloc (.map #[] 0)) w.heap.size 0 (fun _ => none) := ⟨_, World.ownsMap_made _ _ _ _, rfl, fun x _ => ⟨rfl, fun u h => by cases h⟩⟩
theorem HMap.lt (h : HMap W b n f) : b < W.heap.size := by obtain ⟨D, h, _⟩ := h; exact h.lt
theorem HMap.keep (h : HMap W b n f) (hk : W'.heap[b]? = W.heap[b]?) : HMap W' b n f := by
 obtain ⟨D, ⟨es, clock, hb, h1⟩, h2⟩ := h
 exact ⟨D, ⟨es, clock, hk.trans hb, h1⟩, h2⟩
theorem HMap.turn (h : HMap W b n f) {S : List Nat} (ht : Turn S W W') (hS : b ∉ S) : HMap W' b n f := h.keep (ht.block b h.lt hS)
theorem HMap.below (h : HMap W b n f) (hb : Below W.heap.size W W') : HMap W' b n f := h.keep (hb.block b h.lt)
theorem HMap.obj (h : HMap W b n f) : ∃ es clock, W.heap[b]? = some (.map es clock) := by
 obtain ⟨D, ⟨es, clock, hb, h1⟩, h2⟩ := h
 exact ⟨es, clock, hb⟩
theorem HMap.ne (h : HMap W b n f) {g : Nat} {t : TypeId} {cs : Array Value} (hg : Blk W g t cs) : b ≠ g := by
 rintro rfl
 obtain ⟨es, clock, hb⟩ := h.obj
 have : W.heap[b]? = some (.cells cs t) := hg
 rw [hb] at this
 cases this
theorem HMap.noRow (h : HMap W b n f) : NoRow W b := by
 intro cs hc
 obtain ⟨es, clock, hb⟩ := h.obj
 rw [hb] at hc
 cases hc
theorem HMap.same (h : HMap W b n f) (he : ∀ x, wfI x → f x = g x) : HMap W b n g := by
 obtain ⟨D, h1, h0, h2⟩ := h
 exact ⟨D, h1, h0, fun x hx => by rw [← he x hx]; exact h2 x hx⟩
theorem own_just {D : DataW Value} {k : Nat} (h : W.ownsMap Tryz.prog 3 elH b n D) (hz : Maps.size D = k) : W.ownsMap Tryz.prog 3 elH b k D := by
 obtain ⟨es, clock, hb, F, hs, rfl⟩ := h
 have e1 : Maps.size (DataW.map ((es.toList.map (Go.WideElems.rg Tryz.prog 3 elH)).foldr DataW.insert [])) = es.size := by simp [Maps.size, Go.length_sorted]
 exact ⟨es, clock, hb, F, by omega, rfl⟩
theorem HMap.len (M : Tryz.MTy) (h : HMap W b n f) (ty : TypeId) : (Builtin.len_ #[M.tm] ty #[.map (some b)]).run Tryz.prog W = .ok (.int .i64 n) W := by
 obtain ⟨D, h1, h0, h2⟩ := h
 rw [← h0]
 exact h1.len M.und ty
theorem len_nilH (M : Tryz.MTy) (W : World) (ty : TypeId) : (Builtin.len_ #[M.tm] ty #[.map none]).run Tryz.prog W = .ok (.int .i64 0) W := Maps.len_nil M.und ty
theorem keyH : Keyed Tryz.prog 3 := int_keyed Tryz.underlying3
theorem HMap.look (M : Tryz.MTy) (h : HMap W b n f) (x : Int) (hx : wfI x) :
  (Instr.lookup M.tm (.map (some b)) (.int .i64 x) true).run Tryz.prog W = .ok (.tuple #[(f x).getD M.z, .bool (f x).isSome]) W := by
 obtain ⟨D, h1, _, h2⟩ := h
 obtain ⟨hh, hu⟩ := h2 x hx
 obtain ⟨v, ps, hrun, hv⟩ := h1.look_ok keyH M.und (M.zero W) (zd := .held M.z) (zp := []) rfl (keyOf_int_mk Tryz.underlying3 hx)
 rw [hrun, hh]
 unfold elH at hv
 injection hv with hv
 injection hv with hv _
 congr 3
 cases hf : f x with
 | none =>
  rw [hf] at hh
  rw [Maps.atKey_of_not_has hh] at hv
  injection hv with hv
  rw [hv]; rfl
 | some u =>
  rw [hu u hf] at hv
  injection hv with hv
  rw [hv]; rfl
theorem HMap.look1 (M : Tryz.MTy) (h : HMap W b n f) (x : Int) (hx : wfI x) :
  (Instr.lookup M.tm (.map (some b)) (.int .i64 x) false).run Tryz.prog W = .ok ((f x).getD M.z) W := by
 obtain ⟨D, h1, _, h2⟩ := h
 obtain ⟨hh, hu⟩ := h2 x hx
 obtain ⟨v, ps, hrun, hv⟩ := h1.lookup keyH M.und (M.zero W) (zd := .held M.z) (zp := []) rfl (keyOf_int_mk Tryz.underlying3 hx)
 rw [hrun]
 unfold elH at hv
 injection hv with hv
 injection hv with hv _
 congr 1
 cases hf : f x with
 | none =>
  rw [hf] at hh
  rw [Maps.atKey_of_not_has hh] at hv
  injection hv
 | some u =>
  rw [hu u hf] at hv
  injection hv
def putH (f : Int → Option Value) (x : Int) (u : Value) : Int → Option Value := fun a => if a = x then some u else f a
def delH (f : Int → Option Value) (x : Int) : Int → Option Value := fun a => if a = x then none else f a
theorem intKey (x : Int) : WideAt.IsKeyLit (.int .i64 x) := by simp [WideAt.IsKeyLit]
theorem puttedH {D : DataW Value} (hD : Maps.IsMap D) (h2 : HasH D f) (x : Int) (u : Value) : HasH (D.put (.int .i64 x) (.held u)) (putH f x u) := by
 intro a ha
 unfold putH
 by_cases he : a = x
 ·subst he
  rw [if_pos rfl]
  exact ⟨Maps.has_put_same hD (intKey a) _, fun v hv z => by injection hv with hv; subst hv; exact Maps.atKey_put_same hD (intKey a) _ _⟩
 ·rw [if_neg he]
  have hne : (Lit.int .i64 a) ≠ .int .i64 x := fun e => he (by injection e)
  exact ⟨by rw [Maps.has_put_other hne]; exact (h2 a ha).1, fun v hv z => by rw [Maps.atKey_put_other hne]; exact (h2 a ha).2 v hv z⟩
theorem deletedH {D : DataW Value} (h2 : HasH D f) (x : Int) : HasH (D.del (.int .i64 x)) (delH f x) := by
 intro a ha
 unfold delH
 by_cases he : a = x
 ·subst he
  rw [if_pos rfl]
  exact ⟨Maps.has_del_same, fun v hv z => by cases hv⟩
 ·rw [if_neg he]
  have hne : (Lit.int .i64 a) ≠ .int .i64 x := fun e => he (by injection e)
  exact ⟨by rw [Maps.has_del_other hne]; exact (h2 a ha).1, fun v hv z => by rw [Maps.atKey_del_other hne]; exact (h2 a ha).2 v hv z⟩
theorem Turn.of_mapH (h : W.mapTurned W' b) : Turn [b] W W' := by
 have hg := h.grown
 exact ⟨hg.os, hg.tape, hg.output, hg.size, fun k hk hn => hg.block k hk (fun e => hn (by injection e with e; rw [e]; simp))⟩
theorem HMap.store (M : Tryz.MTy) (h : HMap W b n f) (hn : n < maxLen) (x : Int) (u : Value) (hx : wfI x) :
  ∃ W', (Instr.mapUpdate M.tm (.map (some b)) (.int .i64 x) u).run Tryz.prog W = .ok () W' ∧ HMap W' b (if (f x).isSome then n else n + 1) (putH f x u) ∧ Turn [b] W W' := by
 obtain ⟨D, h1, h0, h2⟩ := h
 obtain ⟨W', hr, ho, ht⟩ := h1.store keyH M.und hn (keyOf_int_mk Tryz.underlying3 hx) (d := .held u) (ps := []) rfl
 have hz : Maps.size (D.put (.int .i64 x) (.held u)) = if (f x).isSome then n else n + 1 := by
  rw [Maps.size_put (h1.tidy keyH), (h2 x hx).1, h0]
 exact ⟨W', hr, ⟨_, own_just ho hz, hz, puttedH h1.isMap h2 x u⟩, Turn.of_mapH ht⟩
theorem HMap.drop (M : Tryz.MTy) (h : HMap W b n f) (x : Int) (hx : wfI x) (ty : TypeId) :
  ∃ W', (Builtin.delete_ #[M.tm, 3] ty #[.map (some b), .int .i64 x]).run Tryz.prog W = .ok (.tuple #[]) W' ∧ HMap W' b (if (f x).isSome then n - 1 else n) (delH f x) ∧ Turn [b] W W' := by
 obtain ⟨D, h1, h0, h2⟩ := h
 obtain ⟨W', hr, ho, ht⟩ := h1.drop keyH M.und (keyOf_int_mk Tryz.underlying3 hx) ty
 have hz : Maps.size (D.del (.int .i64 x)) = if (f x).isSome then n - 1 else n := by
  have := Maps.size_del (k := .int .i64 x) (h1.tidy keyH)
  rw [(h2 x hx).1, h0] at this
  cases hf : (f x).isSome
  ·rw [hf] at this; simpa using this
  ·rw [hf] at this
   simp only [if_true] at this ⊢
   omega
 exact ⟨W', hr, ⟨_, own_just ho hz, hz, deletedH h2 x⟩, Turn.of_mapH ht⟩
section
variable {ops : Array Oper} {rest : List Oper} {o : Oper} {a : Act} {w : World} {Q : Exit → Act → World → Prop} {K : Act → World → Prop} {E : Prop}
theorem wp_putH (M : Tryz.MTy) (m k v : Operand) (x : Int) (u : Value) (h : HMap w b n f) (hn : n < maxLen) (hx : wfI x) (hgd : o.guard = none)
  (ho : o.op = .mapUpdate M.tm m k v) (hm : a.eval m = .map (some b)) (hk : a.eval k = .int .i64 x) (hv : a.eval v = u)
  (hK : ∀ w', HMap w' b (if (f x).isSome then n else n + 1) (putH f x u) → Turn [b] w w' → wpList Tryz.prog ops Q rest (a.put o.dst undef) w') : wpList Tryz.prog ops Q (o :: rest) a w := by
 refine wpList_plain hgd fun K hK' => ?_
 obtain ⟨w', hr, h1, h2⟩ := h.store M hn x u hx
 unfold Oper.wp
 simp [execOp, ho, hm, hk, hv, hr, Result.andThen]
 exact hK' _ _ (hK w' h1 h2)
theorem wp_delH (M : Tryz.MTy) (m k : Operand) (x : Int) (h : HMap w b n f) (hx : wfI x) (hgd : o.guard = none)
  (ho : o.op = .call { callee := .builtin .delete, args := #[m, k], argTypes := #[M.tm, 3] }) (hm : a.eval m = .map (some b)) (hk : a.eval k = .int .i64 x)
  (hK : ∀ w', HMap w' b (if (f x).isSome then n - 1 else n) (delH f x) → Turn [b] w w' → wpList Tryz.prog ops Q rest (a.put o.dst (.tuple #[])) w') : wpList Tryz.prog ops Q (o :: rest) a w := by
 refine wpList_plain hgd fun K hK' => ?_
 obtain ⟨w', hr, h1, h2⟩ := h.drop M x hx o.type
 unfold Oper.wp
 simp [execOp, ho, resolve, invoke, builtin, hm, hk, hr, Result.andThen]
 exact hK' _ _ (hK w' h1 h2)
end
structure Vis (f : Int → Option Value) (ks : List Int) (left : Lit → Bool) : Prop where
 nodup : ks.Nodup
 mem : ∀ x ∈ ks, wfI x ∧ (f x).isSome = true
 left_ : ∀ x, wfI x → (left (.int .i64 x) = true ↔ ((f x).isSome = true ∧ x ∉ ks))
theorem Vis.start {left : Lit → Bool} (h : ∀ x, wfI x → left (.int .i64 x) = (f x).isSome) : Vis f [] left := ⟨List.nodup_nil, fun _ hx => (by cases hx), fun x hx => by rw [h x hx]; simp⟩
theorem sameKey_int (z x : Int) : (Lit.int .i64 z).sameKey (.int .i64 x) = (z == x) := by
 unfold Lit.sameKey
 by_cases h : z = x
 ·subst h; simp
 ·simp [h]
theorem Vis.step {ks : List Int} {left : Lit → Bool} (h : Vis f ks left) {x : Int} (hx : wfI x) (hl : left (.int .i64 x) = true) : x ∉ ks ∧ Vis f (ks ++ [x]) (fun z => left z && !z.sameKey (.int .i64 x)) := by
 obtain ⟨h1, h2⟩ := (h.left_ x hx).1 hl
 refine ⟨h2, ?_, ?_, ?_⟩
 ·rw [List.nodup_append]
  exact ⟨h.nodup, by simp, fun a ha b hb => by simp at hb; rw [hb]; rintro rfl; exact h2 ha⟩
 ·intro y hy
  rcases List.mem_append.1 hy with hy | hy
  ·exact h.mem y hy
  ·simp at hy; rw [hy]; exact ⟨hx, h1⟩
 ·intro y hy
  simp only [Bool.and_eq_true, Bool.not_eq_true', sameKey_int, h.left_ y hy, beq_eq_false_iff_ne, List.mem_append, List.mem_singleton]
  constructor
  ·rintro ⟨⟨a, b⟩, c⟩; exact ⟨a, fun h => h.elim b c⟩
  ·rintro ⟨a, b⟩; exact ⟨⟨a, fun h => b (.inl h)⟩, fun h => b (.inr h)⟩
theorem Vis.all {ks : List Int} {left : Lit → Bool} (h : Vis f ks left) (hl : ∀ kl, left kl = false) : ∀ x, wfI x → (x ∈ ks ↔ (f x).isSome = true) := fun x hx => by
 constructor
 ·exact fun hm => (h.mem x hm).2
 ·intro hs
  by_cases hm : x ∈ ks
  ·exact hm
  ·have := (h.left_ x hx).2 ⟨hs, hm⟩
   rw [hl] at this
   cases this
def HRange (W : World) (b r n : Nat) (g : Int → Option Value) (left : Lit → Bool) (cnt : Nat) : Prop := ∃ D : DataW Value, W.ranges Tryz.prog 3 elH b r n D left cnt ∧ Maps.size D = n ∧ HasH D g
theorem HRange.is {left : Lit → Bool} (h : HRange W b r n g left cnt) : HMap W b n g := by obtain ⟨D, h1, h2⟩ := h; exact ⟨D, h1.owns, h2⟩
theorem HRange.ne {left : Lit → Bool} (h : HRange W b r n g left cnt) : r ≠ b := by obtain ⟨D, h1, h2⟩ := h; exact h1.ne
theorem HRange.lt {left : Lit → Bool} (h : HRange W b r n g left cnt) : r < W.heap.size := by obtain ⟨D, h1, h2⟩ := h; exact h1.lt
theorem HRange.left_eq {left : Lit → Bool} (h : HRange W b r n g left cnt) : W.rangeLeft b r = cnt := by obtain ⟨D, h1, h2⟩ := h; exact h1.left_eq
theorem HRange.turn {left : Lit → Bool} (h : HRange W b r n g left cnt) {S : List Nat} (ht : Turn S W W') (hb : b ∉ S) (hr : r ∉ S) : HRange W' b r n g left cnt := by
 have hl1 := h.is.lt
 have hl2 := h.lt
 obtain ⟨D, ⟨es, clock, since, seen, c0, h1, h3, h4, h5, h6, h7⟩, h2⟩ := h
 exact ⟨D, ⟨es, clock, since, seen, c0, (ht.block b hl1 hb).trans h1, h3, h4, h5, (ht.block r hl2 hr).trans h6, h7⟩, h2⟩
theorem HRange.below {left : Lit → Bool} (h : HRange W b r n g left cnt) (hb : Below W.heap.size W W') : HRange W' b r n g left cnt := h.turn (Turn.of_below [] hb) (by simp) (by simp)
section
variable {ops : Array Oper} {rest : List Oper} {o : Oper} {a : Act} {w : World} {Q : Exit → Act → World → Prop} {K : Act → World → Prop} {E : Prop}
theorem wp_hrange (M : Tryz.MTy) (m : Operand) (h : HMap w b n f) (hgd : o.guard = none) (ho : o.op = .range M.tm m) (hm : a.eval m = .map (some b))
  (hK : ∀ w' left cnt, HRange w' b w.heap.size n f left cnt → Vis f [] left → Below w.heap.size w w' → w'.heap.size = w.heap.size + 1 → wpList Tryz.prog ops Q rest (a.put o.dst (.pointer (some ⟨w.heap.size, 0, none⟩))) w') : wpList Tryz.prog ops Q (o :: rest) a w := by
 obtain ⟨D, h1, h0, h2⟩ := h
 refine wpList_range_own w hgd m _ ho _ _ keyH M.und _ b n D hm h1 fun w' hr hg hs => ?_
 exact hK w' _ _ ⟨D, hr, h0, h2⟩ (Vis.start fun x hx => (h2 x hx).1) ⟨hg.os, hg.tape, hg.output, hg.size, fun k hk => hg.block k hk (by simp)⟩ hs
theorem wp_hnext (it : Operand) (ks : List Int) (left : Lit → Bool) (h : HRange w b r n g left cnt) (hv : Vis g ks left) (hgd : o.guard = none) (ho : o.op = .next it false) (hm : a.eval it = .pointer (some ⟨r, 0, none⟩))
  (hD : (∀ x, wfI x → (x ∈ ks ↔ (g x).isSome = true)) → wpList Tryz.prog ops Q rest (a.put o.dst (.tuple #[.bool false])) w)
  (hK : ∀ (x : Int) (u : Value) w' left' cnt', wfI x → g x = some u → x ∉ ks → Vis g (ks ++ [x]) left' → HRange w' b r n g left' cnt' → cnt' < cnt → Turn [r] w w' → w'.heap.size = w.heap.size →
   (Instr.entry (.pointer (some ⟨r, 0, none⟩))).run Tryz.prog w' = .ok (.tuple #[.int .i64 x, u]) w' → wpList Tryz.prog ops Q rest (a.put o.dst (.tuple #[.bool true, .int .i64 x, u])) w') : wpList Tryz.prog ops Q (o :: rest) a w := by
 obtain ⟨D, h1, h0, h2⟩ := h
 refine wpList_next_ranges (α := Int) (β := Value) w hgd it ho _ keyH _ (Value.int .i64) id (fun key kl hkey => by obtain ⟨x, rfl, _⟩ := Maps.keyOf_int_inv Tryz.underlying3 hkey; exact ⟨x, rfl⟩) (fun v y _ => ⟨v, rfl⟩) b r n D left cnt hm h1 (fun _ hl => hD (hv.all hl)) ?_
 intro x u kl y w' cnt' hkey hlk hvy hat hrg hlt hgr hsz hen
 obtain ⟨x', ex, rfl, hwx⟩ := Maps.keyOf_int_inv Tryz.underlying3 hkey
 cases ex
 obtain ⟨q1, q2⟩ := hv.step hwx hlk
 have hs := ((hv.left_ x hwx).1 hlk).1
 obtain ⟨u', hu'⟩ := Option.isSome_iff_exists.1 hs
 have e1 := (h2 x hwx).2 u' hu' (.held u)
 have e2 := hat (.held u)
 unfold elH at hvy
 injection hvy with hvy
 rw [← hvy] at e2
 rw [e1] at e2
 injection e2 with e2
 rw [e2] at hu'
 exact hK x u w' _ cnt' hwx hu' q1 q2 ⟨D, hrg, h0, h2⟩ hlt ⟨hgr.os, hgr.tape, hgr.output, hgr.size, fun k hk hn => hgr.block k hk (fun e => hn (by injection e with e; rw [e]; simp))⟩ hsz hen
end
end Go.Proofs.YtgjnmpjimhbfgaaGreatDoor
