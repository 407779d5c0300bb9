/-
  Rows of values of any kind that are the call's own: append of one that lies in memory.
-/
import Derived.Test.YtnpncbpbeikcaaaWords
import Derived.Maps.AppendAt
namespace Go.Proofs.Ytnpncbpbeikcaaa
open Go.RowKit

/-- A row of values of the call's own (R elements of type E, sz cells each). -/
def OwnR (W : World) (base : Nat) (E : TypeId) (sz : Nat) (v : Value) (R : Nat) (vs : List Value) : Prop := W.ownsRow base E sz v R vs
section
variable {w w' : World} {base sz R : Nat} {E : TypeId} {v : Value} {l : List Value}
theorem OwnR.nil (w : World) (base : Nat) (E : TypeId) (sz : Nat) : OwnR w base E sz (.slice none 0 0) 0 [] := World.ownsRow_nil _ _ _ _
theorem OwnR.keep (h : OwnR w base E sz v R l) (hk : ∀ g, v.ownBlock = some g → w'.heap[g]? = w.heap[g]?) : OwnR w' base E sz v R l := by
  obtain ⟨h1, h2⟩ := h
  refine ⟨h1, ?_⟩
  rcases h2 with h2 | ⟨g, cap, cur, rfl, hg, hh, r⟩
  · exact .inl h2
  · exact .inr ⟨g, cap, cur, rfl, hg, (hk g rfl).trans hh, r⟩
theorem OwnR.lt (h : OwnR w base E sz v R l) {g : Nat} (hg : v.ownBlock = some g) : base ≤ g ∧ g < w.heap.size := World.ownsRow.lt h g hg
theorem OwnR.turn {S : List Nat} (h : OwnR w base E sz v R l) (ht : Turn S w w') (hn : ∀ g, v.ownBlock = some g → g ∉ S) : OwnR w' base E sz v R l :=
  h.keep fun g hg => ht.block g (h.lt hg).2 (hn g hg)
theorem OwnR.below (h : OwnR w base E sz v R l) (ht : Below w.heap.size w w') : OwnR w' base E sz v R l :=
  h.keep fun g hg => ht.block g (h.lt hg).2
theorem OwnR.alloc_ (h : OwnR w base E sz v R l) (o : Obj) : OwnR (w.alloc o) base E sz v R l :=
  h.keep fun g hg => ((Below.refl w.heap.size w).alloc (Nat.le_refl _) o).block g (h.lt hg).2
theorem OwnR.len (h : OwnR w base E sz v R l) : l.length = R * sz := h.1
theorem OwnR.form (h : OwnR w base E sz v R l) (hR : 0 < R) (hz : 0 < sz) :
    ∃ g c, v = .slice (some ⟨g, 0, none⟩) R c ∧ base ≤ g ∧ g < w.heap.size ∧ R ≤ c ∧ c ≤ maxLen ∧ ∀ j x, l[j]? = some x → w.cell? ⟨g, j, none⟩ = some x := by
  have h' := h
  obtain ⟨h1, h2⟩ := h
  rcases h2 with ⟨rfl, h0⟩ | ⟨g, cap, cur, rfl, hg, hh, hnc, hm, hcs, htk⟩
  · omega
  · refine ⟨g, cap, rfl, hg, (h'.lt (g := g) rfl).2, hnc, hm, fun j x hx => ?_⟩
    have := World.ownsRow.cells h' (g := g) rfl j x hx
    rwa [show (⟨g, 0, none⟩ : Addr).add j = ⟨g, j, none⟩ by rw [Addr.add_mid, Nat.zero_add]] at this
theorem OwnR.shape (h : OwnR w base E sz v R l) : ∃ A c, v = .slice A R c ∧ R ≤ c := by
  obtain ⟨h1, h2⟩ := h
  rcases h2 with ⟨rfl, h0⟩ | ⟨g, cap, cur, rfl, hg, hh, hnc, hm, hcs, htk⟩
  · subst h0; exact ⟨none, 0, rfl, Nat.le_refl _⟩
  · exact ⟨_, _, rfl, hnc⟩
end
/-- What a kind of element is: its zero, its cells, its bytes. -/
structure RowT (P : Program) (SL E : TypeId) (z : Value) (sz bytes : Nat) : Prop where
  hu : P.underlying SL = some (.slice E)
  hi : (P.info? E).map (fun i => (i.zero, i.size, i.bytes)) = some (some z, sz, bytes)
  hz : z.cells.size = sz
  hsz : 0 < sz
theorem op_appR {P : Program} {SL E : TypeId} {z : Value} {sz bytes : Nat} (T : RowT P SL E z sz bytes) {o : Oper} {a : Act} {w : World} {K : Act → World → Prop} {Q : Exit → Act → World → Prop} (s x : Operand)
    (ho : o.op = .call { callee := .builtin .append, args := #[s, x], argTypes := #[SL, SL] })
    (base R : Nat) (v : Value) (xs : List Value) (hs : a.eval s = v) (hown : OwnR w base E sz v R xs) (b off m c : Nat) (news : List Value) (hx : a.eval x = .slice (some ⟨b, off, none⟩) m c) (hl : news.length = m * sz)
    (hc : ∀ j u, news[j]? = some u → w.cell? ⟨b, off + j, none⟩ = some u) (h1 : ∀ u ∈ news, u.oneCell' = true) (hR : R + m ≤ maxLen) (hby : (R + m) * bytes ≤ 140737488355328) (hbase : base ≤ w.heap.size)
    (h : ∀ v' w', OwnR w' base E sz v' (R + m) (xs ++ news) → w.grownBy w' v.ownBlock → (v'.ownBlock = v.ownBlock ∨ v'.ownBlock = some w.heap.size) → K (a.put o.dst v') w') :
    Oper.wp P o a w K Q := by
  obtain ⟨i0, hi, hz0, hz1, hz2⟩ := info_parts T.hi
  obtain ⟨v', w', hr, ho', hg, hn, hb⟩ := run_append_own_at (P := P) w base SL o.type E i0 z sz bytes T.hu hi hz0 hz1 hz2 T.hz T.hsz v R xs hown ⟨b, off, none⟩ m c news hl
      (fun j u hu => by rw [show (⟨b, off, none⟩ : Addr).add j = ⟨b, off + j, none⟩ by rw [Addr.add_mid]]; exact hc j u hu) h1 hR hby hbase
  unfold Oper.wp
  simp only [execOp, ho, resolve, invoke, builtin, Sem.run_bind, Sem.run_pure, Result.andThen_ok, List.map_toArray, List.map_cons, List.map_nil, hs, hx, hr]
  exact h v' w' ho' hg hb
theorem step_appR {P : Program} {SL E : TypeId} {z : Value} {sz bytes : Nat} (T : RowT P SL E z sz bytes) {ops : Array Oper} {o : Oper} {a : Act} {w : World} {K : Act → World → Prop} {Q : Exit → Act → World → Prop} {X : Prop} (hgd : o.guard = none) (s x : Operand)
    (ho : o.op = .call { callee := .builtin .append, args := #[s, x], argTypes := #[SL, SL] })
    (base R : Nat) (v : Value) (xs : List Value) (hs : a.eval s = v) (hown : OwnR w base E sz v R xs) (b off m c : Nat) (news : List Value) (hx : a.eval x = .slice (some ⟨b, off, none⟩) m c) (hl : news.length = m * sz)
    (hc : ∀ j u, news[j]? = some u → w.cell? ⟨b, off + j, none⟩ = some u) (h1 : ∀ u ∈ news, u.oneCell' = true) (hR : R + m ≤ maxLen) (hby : (R + m) * bytes ≤ 140737488355328) (hbase : base ≤ w.heap.size)
    (h : ∀ v' w', OwnR w' base E sz v' (R + m) (xs ++ news) → w.grownBy w' v.ownBlock → (v'.ownBlock = v.ownBlock ∨ v'.ownBlock = some w.heap.size) → K (a.put o.dst v') w') :
    if Region.wanted o (yielded ops a.tmps) = true then Oper.wp P o a w K Q else X := by
  rw [if_pos (by simp [Region.wanted, hgd])]
  exact op_appR T s x ho base R v xs hs hown b off m c news hx hl hc h1 hR hby hbase h
/-- The cells of a block of values that was made just now. -/
theorem cells_newR (w : World) (vs : List Value) (t : TypeId) : ∀ j u, vs[j]? = some u → (w.alloc (.cells vs.toArray t)).cell? ⟨w.heap.size, 0 + j, none⟩ = some u := fun j u hu => by
  have hb : Blk (w.alloc (.cells vs.toArray t)) w.heap.size t vs.toArray := Blk.new _ _ _
  rw [Nat.zero_add, hb.cell, List.getElem?_toArray]; exact hu
end Go.Proofs.Ytnpncbpbeikcaaa
