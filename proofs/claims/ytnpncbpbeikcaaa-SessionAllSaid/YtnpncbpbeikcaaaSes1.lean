/-
  Sessions: the map of logins, and rows of sessions.
-/
import Derived.Test.YtnpncbpbeikcaaaRowE
import Derived.Maps.OwnSet
import Derived.Maps.RangeWalk
import Derived.DeepKeys4
namespace Go.Proofs.Ytnpncbpbeikcaaa
open Go.RowKit Go.Maps

abbrev Try.tW : TypeId := 56
def wf64 (a : Int) : Prop := (Lit.int .i64 a).wf = true
def kLit (a b : Int) : Lit := .string (keyBytes [.int .i64 a, .int .i64 b])
theorem Try.laidOut : laidOutB Try.prog = true := by kernel_rfl
theorem Try.rowW : (56 : TypeId) < Try.prog.types.size := of_decide_eq_true (by kernel_rfl)
theorem Try.wideW : (match Try.prog.underlying 56 with | some (.array _ _) | some (.struct _) => true | _ => false) = true := by kernel_rfl
theorem Try.lawW : Keyed Try.prog 56 := Keyed.of_law (deep_law_laid Try.laidOut (m := 2) (by omega) Try.rowW (by kernel_rfl) Try.wideW)
theorem Try.keyTypeW : Try.prog.keyType 56 = true := by kernel_rfl
theorem Try.cellsW : Try.prog.cellsOf 56 = 2 := by kernel_rfl
theorem Try.cellsI : Try.prog.cellsOf 3 = 1 := by kernel_rfl
theorem Try.typesSucc : ∃ m, Try.prog.types.size = m + 1 := Nat.exists_eq_succ_of_ne_zero (Nat.ne_of_gt (Nat.lt_of_le_of_lt (Nat.zero_le _) Try.rowW))
theorem lits_int (D : Nat) (x : Value) (L : List Lit) (h : Try.prog.keyLits (D + 1) 3 [x] = some L) : ∃ a, x = .int .i64 a ∧ wf64 a ∧ L = [.int .i64 a] := by
  unfold Program.keyLits at h
  simp only [Try.underlying3] at h
  cases x <;> simp at h
  obtain ⟨⟨rfl, h2⟩, rfl⟩ := h
  exact ⟨_, rfl, h2, rfl⟩
theorem lits_int_mk (D : Nat) (a : Int) (h : wf64 a) : Try.prog.keyLits (D + 1) 3 [.int .i64 a] = some [.int .i64 a] := by
  unfold Program.keyLits
  simp only [Try.underlying3]
  unfold wf64 at h
  simp [h]
theorem where_key (a b : Int) (ha : wf64 a) (hb : wf64 b) : keyOf Try.prog 56 (.agg #[.int .i64 a, .int .i64 b]) = some (kLit a b) := by
  obtain ⟨m, hm⟩ := Try.typesSucc
  unfold keyOf
  simp only [Try.underlying56]
  rw [if_pos (by rw [Try.keyTypeW]; simp [Value.formed, Try.underlying56, Try.cellsW])]
  unfold Program.keyLits
  rw [hm]
  simp only [Try.underlying56]
  simp [Value.cells, Try.cellsW, Try.cellsI, lits_int_mk, ha, hb, kLit]
theorem where_inv {v : Value} {kl : Lit} (h : keyOf Try.prog 56 v = some kl) : ∃ a b, v = .agg #[.int .i64 a, .int .i64 b] ∧ wf64 a ∧ wf64 b ∧ kl = kLit a b := by
  obtain ⟨xs, L, rfl, h1, rfl⟩ := keyOf_top Try.wideW h
  obtain ⟨m, hm⟩ := Try.typesSucc
  unfold Program.keyLits at h1
  rw [hm] at h1
  simp only [Try.underlying56] at h1
  split at h1
  · rename_i hl
    obtain ⟨hl, _⟩ := hl
    rw [Try.cellsW] at hl
    obtain ⟨xs⟩ := xs
    match xs, hl with
    | [x, y], _ =>
      cases h2 : Try.prog.keyLits (m + 1) 3 [x] with
      | none => simp [Try.cellsI, h2] at h1
      | some l1 =>
      cases h3 : Try.prog.keyLits (m + 1) 3 [y] with
      | none => simp [Try.cellsI, h2, h3] at h1
      | some l2 =>
      simp [Try.cellsI, h2, h3] at h1
      subst h1
      obtain ⟨a, rfl, ha, rfl⟩ := lits_int _ _ _ h2
      obtain ⟨b, rfl, hb, rfl⟩ := lits_int _ _ _ h3
      exact ⟨a, b, rfl, ha, hb, rfl⟩
  · cases h1
theorem kLit_inj {a b a' b' : Int} (ha : wf64 a) (hb : wf64 b) (ha' : wf64 a') (hb' : wf64 b') (h : kLit a b = kLit a' b') : a = a' ∧ b = b' := by
  have h1 := where_key a b ha hb
  have h2 := where_key a' b' ha' hb'
  rw [← h] at h2
  have := Try.lawW.inj h1 h2
  simp at this
  exact this
theorem Try.zeroI (w : World) : (zeroValue 3).run Try.prog w = .ok (.int .i64 0) w := by kernel_rfl

abbrev Who := Int → Int → Option Int
/-- Block b is a map of at most n logins: f. -/
def MapIs (W : World) (b n : Nat) (f : Who) : Prop :=
  ∃ D : DataW Unit, W.ownsMap Try.prog 56 (plainElem Try.prog 3) b n D ∧ ∀ x y, wf64 x → wf64 y → Maps.has D (kLit x y) = (f x y).isSome ∧ ∀ u, f x y = some u → ∀ z, D.atKey (kLit x y) z = .lit (.int .i64 u)
theorem MapIs.made (w : World) : MapIs (w.alloc (.map #[] 0)) w.heap.size 0 (fun _ _ => none) := ⟨_, World.ownsMap_made _ _ _ _, fun x y _ _ => ⟨rfl, fun u h => by cases h⟩⟩
theorem MapIs.lt {W : World} {b n : Nat} {f : Who} (h : MapIs W b n f) : b < W.heap.size := by obtain ⟨D, h, _⟩ := h; exact h.lt
theorem MapIs.mono {W : World} {b n n' : Nat} {f : Who} (h : MapIs W b n f) (hn : n ≤ n') : MapIs W b n' f := by obtain ⟨D, h, h2⟩ := h; exact ⟨D, h.mono hn, h2⟩
theorem MapIs.keep {W W' : World} {b n : Nat} {f : Who} (h : MapIs W b n f) (hk : W'.heap[b]? = W.heap[b]?) : MapIs W' b n f := by
  obtain ⟨D, ⟨es, clock, hb, h1⟩, h2⟩ := h
  exact ⟨D, ⟨es, clock, hk.trans hb, h1⟩, h2⟩
theorem MapIs.obj {W : World} {b n : Nat} {f : Who} (h : MapIs W b n f) : ∃ es clock, W.heap[b]? = some (.map es clock) := by
  obtain ⟨D, ⟨es, clock, hb, h1⟩, h2⟩ := h
  exact ⟨es, clock, hb⟩
theorem MapIs.ne {W : World} {b n : Nat} {f : Who} (h : MapIs W b n f) {g : Nat} {t : TypeId} {cs : Array Value} (hg : Blk W g t cs) : b ≠ g := by
  rintro rfl
  obtain ⟨es, clock, hb⟩ := h.obj
  have : W.heap[b]? = some (.cells cs t) := hg
  rw [hb] at this
  cases this
theorem MapIs.look {W : World} {b n : Nat} {f : Who} (h : MapIs W b n f) (x y : Int) (hx : wf64 x) (hy : wf64 y) :
    (Instr.lookup 51 (.map (some b)) (.agg #[.int .i64 x, .int .i64 y]) true).run Try.prog W = .ok (.tuple #[.int .i64 ((f x y).getD 0), .bool (f x y).isSome]) W := by
  obtain ⟨D, h1, h2⟩ := h
  obtain ⟨hh, hu⟩ := h2 x y hx hy
  obtain ⟨v, ps, hrun, hv⟩ := h1.look_ok Try.lawW Try.underlying51 (Try.zeroI W) (plainElem_int Try.underlying3 (by decide)) (where_key x y hx hy)
  obtain ⟨c, rfl, hc, hwc⟩ := plainElem_int_inv Try.underlying3 hv
  have := congrArg Prod.fst hc
  simp only at this
  rw [hrun, hh]
  congr 3
  cases hf : f x y with
  | none =>
    rw [hf] at hh
    rw [Maps.atKey_of_not_has hh] at this
    injection this with this
    injection this with _ this
    rw [← this]; rfl
  | some u =>
    rw [hu u hf] at this
    injection this with this
    injection this with _ this
    rw [← this]; rfl
def putW (f : Who) (x y u : Int) : Who := fun a b => if a = x ∧ b = y then some u else f a b
def delW (f : Who) (x y : Int) : Who := fun a b => if a = x ∧ b = y then none else f a b
theorem kLit_key (x y : Int) : WideAt.IsKeyLit (kLit x y) := by unfold kLit; simp [WideAt.IsKeyLit]
theorem kLit_ne {a b x y : Int} (ha : wf64 a) (hb : wf64 b) (hx : wf64 x) (hy : wf64 y) (h : ¬ (a = x ∧ b = y)) : kLit a b ≠ kLit x y := fun e => h (kLit_inj ha hb hx hy e)
theorem putted {D : DataW Unit} {f : Who} (hD : Maps.IsMap D) (h2 : ∀ x y, wf64 x → wf64 y → Maps.has D (kLit x y) = (f x y).isSome ∧ ∀ u, f x y = some u → ∀ z, D.atKey (kLit x y) z = .lit (.int .i64 u)) (x y u : Int) (hx : wf64 x) (hy : wf64 y) :
    ∀ a b, wf64 a → wf64 b → Maps.has (D.put (kLit x y) (.lit (.int .i64 u))) (kLit a b) = (putW f x y u a b).isSome ∧ ∀ v, putW f x y u a b = some v → ∀ z, (D.put (kLit x y) (.lit (.int .i64 u))).atKey (kLit a b) z = .lit (.int .i64 v) := by
  intro a b ha hb
  unfold putW
  by_cases he : a = x ∧ b = y
  · obtain ⟨rfl, rfl⟩ := he
    rw [if_pos ⟨rfl, rfl⟩]
    exact ⟨Maps.has_put_same hD (kLit_key _ _) _, fun v hv z => by injection hv with hv; subst hv; exact Maps.atKey_put_same hD (kLit_key _ _) _ _⟩
  · rw [if_neg he]
    have hne := kLit_ne ha hb hx hy he
    exact ⟨by rw [Maps.has_put_other hne]; exact (h2 a b ha hb).1, fun v hv z => by rw [Maps.atKey_put_other hne]; exact (h2 a b ha hb).2 v hv z⟩
theorem deleted {D : DataW Unit} {f : Who} (h2 : ∀ x y, wf64 x → wf64 y → Maps.has D (kLit x y) = (f x y).isSome ∧ ∀ u, f x y = some u → ∀ z, D.atKey (kLit x y) z = .lit (.int .i64 u)) (x y : Int) (hx : wf64 x) (hy : wf64 y) :
    ∀ a b, wf64 a → wf64 b → Maps.has (D.del (kLit x y)) (kLit a b) = (delW f x y a b).isSome ∧ ∀ v, delW f x y a b = some v → ∀ z, (D.del (kLit x y)).atKey (kLit a b) z = .lit (.int .i64 v) := by
  intro a b ha hb
  unfold delW
  by_cases he : a = x ∧ b = y
  · obtain ⟨rfl, rfl⟩ := he
    rw [if_pos ⟨rfl, rfl⟩]
    exact ⟨Maps.has_del_same, fun v hv z => by cases hv⟩
  · rw [if_neg he]
    have hne := kLit_ne ha hb hx hy he
    exact ⟨by rw [Maps.has_del_other hne]; exact (h2 a b ha hb).1, fun v hv z => by rw [Maps.atKey_del_other hne]; exact (h2 a b ha hb).2 v hv z⟩
theorem Turn.of_map {W W' : World} {b : Nat} (h : W.mapTurned W' b) : Turn [b] W W' := by
  have hg := h.grown
  exact ⟨hg.os, hg.tape, hg.output, hg.size, fun k hk hn => hg.block k hk (fun e => hn (by injection e with e; rw [e]; simp))⟩
/-- A map's store, as an operation. -/
theorem MapIs.store {W : World} {b n : Nat} {f : Who} (h : MapIs W b n f) (hn : n < maxLen) (x y u : Int) (hx : wf64 x) (hy : wf64 y) (hu : wf64 u) :
    ∃ W', (Instr.mapUpdate 51 (.map (some b)) (.agg #[.int .i64 x, .int .i64 y]) (.int .i64 u)).run Try.prog W = .ok () W' ∧ MapIs W' b (n + 1) (putW f x y u) ∧ Turn [b] W W' := by
  obtain ⟨D, h1, h2⟩ := h
  obtain ⟨W', hr, ho, ht⟩ := h1.store Try.lawW Try.underlying51 hn (where_key x y hx hy) (plainElem_int Try.underlying3 hu)
  exact ⟨W', hr, ⟨_, ho, putted h1.isMap h2 x y u hx hy⟩, Turn.of_map ht⟩
theorem wp_put {ops : Array Oper} {rest : List Oper} {o : Oper} {a : Act} {w : World} {Q : Exit → Act → World → Prop} (m k v : Operand) (b n : Nat) (f : Who) (x y u : Int) (h : MapIs w b n f) (hn : n < maxLen) (hx : wf64 x) (hy : wf64 y) (hu : wf64 u) (hgd : o.guard = none)
    (ho : o.op = .mapUpdate 51 m k v) (hm : a.eval m = .map (some b)) (hk : a.eval k = .agg #[.int .i64 x, .int .i64 y]) (hv : a.eval v = .int .i64 u)
    (hK : ∀ w', MapIs w' b (n + 1) (putW f x y u) → Turn [b] w w' → wpList Try.prog ops Q rest (a.put o.dst undef) w') : wpList Try.prog ops Q (o :: rest) a w := by
  refine wpList_plain hgd fun K hK' => ?_
  obtain ⟨w', hr, h1, h2⟩ := h.store hn x y u hx hy hu
  unfold Oper.wp
  simp [execOp, ho, hm, hk, hv, hr, Result.andThen]
  exact hK' _ _ (hK w' h1 h2)
theorem MapIs.drop {W : World} {b n : Nat} {f : Who} (h : MapIs W b n f) (x y : Int) (hx : wf64 x) (hy : wf64 y) (ty : TypeId) :
    ∃ W', (Builtin.delete_ #[51, 56] ty #[.map (some b), .agg #[.int .i64 x, .int .i64 y]]).run Try.prog W = .ok (.tuple #[]) W' ∧ MapIs W' b n (delW f x y) ∧ Turn [b] W W' := by
  obtain ⟨D, h1, h2⟩ := h
  obtain ⟨W', hr, ho, ht⟩ := h1.drop Try.lawW Try.underlying51 (where_key x y hx hy) ty
  exact ⟨W', hr, ⟨_, ho, deleted h2 x y hx hy⟩, Turn.of_map ht⟩
/-- delete, as a region's step. -/
theorem step_del {ops : Array Oper} {o : Oper} {a : Act} {w : World} {K : Act → World → Prop} {Q : Exit → Act → World → Prop} {E : Prop} (m k : Operand) (b n : Nat) (f : Who) (x y : Int) (h : MapIs w b n f) (hx : wf64 x) (hy : wf64 y) (hgd : o.guard = none)
    (ho : o.op = .call { callee := .builtin .delete, args := #[m, k], argTypes := #[51, 56] }) (hm : a.eval m = .map (some b)) (hk : a.eval k = .agg #[.int .i64 x, .int .i64 y])
    (hK : ∀ w', MapIs w' b n (delW f x y) → Turn [b] w w' → K (a.put o.dst (.tuple #[])) w') : if Region.wanted o (yielded ops a.tmps) = true then Oper.wp Try.prog o a w K Q else E := by
  rw [if_pos (by simp [Region.wanted, hgd])]
  obtain ⟨w', hr, h1, h2⟩ := h.drop x y hx hy o.type
  unfold Oper.wp
  simp [execOp, ho, resolve, invoke, builtin, hm, hk, hr, Result.andThen]
  exact hK w' h1 h2

/-- A map that is ranged over: g is what it holds, left what is to come. -/
def MRange (W : World) (b r n : Nat) (g : Who) (left : Lit → Bool) (cnt : Nat) : Prop :=
  ∃ D : DataW Unit, W.ranges Try.prog 56 (plainElem Try.prog 3) b r n D left cnt ∧ ∀ x y, wf64 x → wf64 y → Maps.has D (kLit x y) = (g x y).isSome ∧ ∀ u, g x y = some u → ∀ z, D.atKey (kLit x y) z = .lit (.int .i64 u)
theorem MRange.is {W : World} {b r n cnt : Nat} {g : Who} {left : Lit → Bool} (h : MRange W b r n g left cnt) : MapIs W b n g := by
  obtain ⟨D, h1, h2⟩ := h
  exact ⟨D, h1.owns, h2⟩
theorem MRange.ne {W : World} {b r n cnt : Nat} {g : Who} {left : Lit → Bool} (h : MRange W b r n g left cnt) : r ≠ b := by
  obtain ⟨D, h1, h2⟩ := h
  exact h1.ne
theorem MRange.lt {W : World} {b r n cnt : Nat} {g : Who} {left : Lit → Bool} (h : MRange W b r n g left cnt) : r < W.heap.size := by
  obtain ⟨D, h1, h2⟩ := h
  exact h1.lt
theorem MRange.left_eq {W : World} {b r n cnt : Nat} {g : Who} {left : Lit → Bool} (h : MRange W b r n g left cnt) : W.rangeLeft b r = cnt := by
  obtain ⟨D, h1, h2⟩ := h
  exact h1.left_eq
theorem MRange.below {W W' : World} {b r n cnt : Nat} {g : Who} {left : Lit → Bool} (h : MRange W b r n g left cnt) (hb : Below W.heap.size W W') : MRange W' b r n g left cnt := by
  obtain ⟨D, h1, h2⟩ := h
  exact ⟨D, h1.kept (row := none) ⟨hb.os, hb.tape, hb.output, hb.size, fun i hi _ => hb.block i hi⟩ (by simp) (by simp), h2⟩
theorem wp_mrange {ops : Array Oper} {rest : List Oper} {o : Oper} {a : Act} {w : World} {Q : Exit → Act → World → Prop} (m : Operand) (b n : Nat) (f : Who) (h : MapIs w b n f) (hgd : o.guard = none) (ho : o.op = .range 51 m) (hm : a.eval m = .map (some b))
    (hK : ∀ w' left cnt, MRange w' b w.heap.size n f left cnt → (∀ x y, wf64 x → wf64 y → left (kLit x y) = (f x y).isSome) → Below w.heap.size w w' → w'.heap.size = w.heap.size + 1 → wpList Try.prog ops Q rest (a.put o.dst (.pointer (some ⟨w.heap.size, 0, none⟩))) w') : wpList Try.prog ops Q (o :: rest) a w := by
  obtain ⟨D, h1, h2⟩ := h
  refine wpList_range_own w hgd m _ ho _ _ Try.lawW Try.underlying51 _ b n D hm h1 fun w' hr hg hs => ?_
  exact hK w' _ _ ⟨D, hr, h2⟩ (fun x y hx hy => (h2 x y hx hy).1) ⟨hg.os, hg.tape, hg.output, hg.size, fun k hk => hg.block k hk (by simp)⟩ hs
theorem wp_mnext {ops : Array Oper} {rest : List Oper} {o : Oper} {a : Act} {w : World} {Q : Exit → Act → World → Prop} (it : Operand) (b r n cnt : Nat) (g : Who) (left : Lit → Bool) (h : MRange w b r n g left cnt) (hgd : o.guard = none) (ho : o.op = .next it false) (hm : a.eval it = .pointer (some ⟨r, 0, none⟩))
    (hD : (∀ kl, left kl = false) → wpList Try.prog ops Q rest (a.put o.dst (.tuple #[.bool false])) w)
    (hK : ∀ (x y u : Int) w' cnt', wf64 x → wf64 y → left (kLit x y) = true → MRange w' b r n g (fun z => left z && !z.sameKey (kLit x y)) cnt' → cnt' < cnt → Turn [r] w w' → w'.heap.size = w.heap.size →
      (Instr.entry (.pointer (some ⟨r, 0, none⟩))).run Try.prog w' = .ok (.tuple #[.agg #[.int .i64 x, .int .i64 y], .int .i64 u]) w' → wpList Try.prog ops Q rest (a.put o.dst (.tuple #[.bool true, .agg #[.int .i64 x, .int .i64 y], .int .i64 u])) w') : wpList Try.prog ops Q (o :: rest) a w := by
  obtain ⟨D, h1, h2⟩ := h
  refine wpList_next_ranges (α := Int × Int) (β := Int) w hgd it ho _ Try.lawW _ (fun p => .agg #[.int .i64 p.1, .int .i64 p.2]) (Value.int .i64) (fun key kl hk => ?_) (fun v y hv => ?_) b r n D left cnt hm h1 (fun _ hl => hD hl) ?_
  · obtain ⟨a, b, rfl, _⟩ := where_inv hk
    exact ⟨(a, b), rfl⟩
  · obtain ⟨c, rfl, _⟩ := plainElem_int_inv Try.underlying3 hv
    exact ⟨c, rfl⟩
  · intro p c kl y w' cnt' hkey hlk hv hat hrg hlt hgr hsz hen
    obtain ⟨a', b', e, ha, hb, rfl⟩ := where_inv hkey
    simp at e
    obtain ⟨rfl, rfl⟩ := e
    exact hK p.1 p.2 c w' cnt' ha hb hlk ⟨D, hrg, h2⟩ hlt ⟨hgr.os, hgr.tape, hgr.output, hgr.size, fun k hk hn => hgr.block k hk (fun e => hn (by injection e with e; rw [e]; simp))⟩ hsz hen
theorem step_mdel {ops : Array Oper} {o : Oper} {a : Act} {w : World} {K : Act → World → Prop} {Q : Exit → Act → World → Prop} {E : Prop} (m k : Operand) (b r n cnt : Nat) (g : Who) (left : Lit → Bool) (x y : Int) (h : MRange w b r n g left cnt) (hx : wf64 x) (hy : wf64 y) (hgd : o.guard = none)
    (ho : o.op = .call { callee := .builtin .delete, args := #[m, k], argTypes := #[51, 56] }) (hm : a.eval m = .map (some b)) (hk : a.eval k = .agg #[.int .i64 x, .int .i64 y])
    (hK : ∀ w' cnt', MRange w' b r n (delW g x y) (fun z => left z && !z.sameKey (kLit x y)) cnt' → cnt' ≤ cnt → Turn [b] w w' → K (a.put o.dst (.tuple #[])) w') : if Region.wanted o (yielded ops a.tmps) = true then Oper.wp Try.prog o a w K Q else E := by
  rw [if_pos (by simp [Region.wanted, hgd])]
  obtain ⟨D, h1, h2⟩ := h
  obtain ⟨w', cnt', hr, r1, r2, r3⟩ := h1.drop Try.lawW Try.underlying51 (where_key x y hx hy) o.type
  unfold Oper.wp
  simp [execOp, ho, resolve, invoke, builtin, hm, hk, hr, Result.andThen]
  exact hK w' cnt' ⟨_, r1, deleted h2 x y hx hy⟩ r2 (Turn.of_map r3)

/-- A session, plainly. -/
structure PS where
  h : Int
  c : Int
  s : Int
  rw : Bool
def PS.cells (x : PS) : List Value := [.int .i64 x.h, .int .i64 x.c, .int .i64 x.s, .bool x.rw]
def Try.eS : ETy PS where
  t := 59
  ts := 52
  sz := 4
  bytes := 32
  z := .agg #[.int .i64 0, .int .i64 0, .int .i64 0, .bool false]
  cells := PS.cells
  len := fun _ => rfl
  one := fun x u hu => by simp [PS.cells] at hu; rcases hu with rfl | rfl | rfl | rfl <;> rfl
  pos := by decide
  zsz := rfl
  small := by decide
  und := Try.underlying52
  info := by kernel_rfl
def Try.eR : ETy PS where
  t := 61
  ts := 27
  sz := 4
  bytes := 32
  z := .agg #[.int .i64 0, .int .i64 0, .int .i64 0, .bool false]
  cells := PS.cells
  len := fun _ => rfl
  one := fun x u hu => by simp [PS.cells] at hu; rcases hu with rfl | rfl | rfl | rfl <;> rfl
  pos := by decide
  zsz := rfl
  small := by decide
  und := Try.underlying27
  info := by kernel_rfl
def Try.eI : ETy Int where
  t := 3
  ts := 37
  sz := 1
  bytes := 8
  z := .int .i64 0
  cells := fun x => [.int .i64 x]
  len := fun _ => rfl
  one := fun x u hu => by simp at hu; subst hu; rfl
  pos := by decide
  zsz := rfl
  small := by decide
  und := Try.underlying37
  info := by kernel_rfl
/-- A login, plainly. -/
structure PL where
  c : Int
  s : Int
  u : Int
def Try.eL : ETy PL where
  t := 69
  ts := 28
  sz := 3
  bytes := 24
  z := .agg #[.int .i64 0, .int .i64 0, .int .i64 0]
  cells := fun x => [.int .i64 x.c, .int .i64 x.s, .int .i64 x.u]
  len := fun _ => rfl
  one := fun x u hu => by simp at hu; rcases hu with rfl | rfl | rfl <;> rfl
  pos := by decide
  zsz := rfl
  small := by decide
  und := Try.underlying28
  info := by kernel_rfl
end Go.Proofs.Ytnpncbpbeikcaaa
