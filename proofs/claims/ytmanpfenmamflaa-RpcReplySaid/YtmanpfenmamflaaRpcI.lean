/-
  Rows of numbers of the call's own: append of one.
-/
import Derived.Test.YtmanpfenmamflaaRpc9
import Derived.Test.YtmanpfenmamflaaRpc6
namespace Go.Proofs.Ytmanpfenmamflaa
open Go.RowKit

theorem Try.infoI : (Try.prog.info? 3).map (fun i => (i.zero, i.size, i.bytes)) = some (some (.int .i64 0), 1, 8) := by kernel_rfl
def OwnI (W : World) (base : Nat) (v : Value) (l : List Int) : Prop := W.ownsRow base 3 1 v l.length (l.map (Value.int .i64))
section
variable {w w' : World} {base : Nat} {v : Value} {l : List Int}
theorem OwnI.nil (w : World) (base : Nat) : OwnI w base (.slice none 0 0) [] := World.ownsRow_nil _ _ _ _
theorem OwnI.keep (h : OwnI w base v l) (hk : ∀ g, v.ownBlock = some g → w'.heap[g]? = w.heap[g]?) : OwnI w' base v l := by
  obtain ⟨h1, h2⟩ := h
  refine ⟨h1, ?_⟩
  rcases h2 with h2 | ⟨g, cap, cur, rfl, hg, hh, r⟩
  · exact .inl h2
  · exact .inr ⟨g, cap, cur, rfl, hg, (hk g rfl).trans hh, r⟩
theorem OwnI.lt (h : OwnI w base v l) {g : Nat} (hg : v.ownBlock = some g) : base ≤ g ∧ g < w.heap.size := World.ownsRow.lt h g hg
theorem OwnI.turn {S : List Nat} (h : OwnI w base v l) (ht : Turn S w w') (hn : ∀ g, v.ownBlock = some g → g ∉ S) : OwnI w' base v l :=
  h.keep fun g hg => ht.block g (h.lt hg).2 (hn g hg)
theorem OwnI.below (h : OwnI w base v l) (hb : Below w.heap.size w w') : OwnI w' base v l := h.keep fun g hg => hb.block g (h.lt hg).2
theorem OwnI.mono {base' : Nat} (h : OwnI w base v l) (hb : base' ≤ base) : OwnI w base' v l := by
  obtain ⟨h1, h2⟩ := h
  refine ⟨h1, ?_⟩
  rcases h2 with h2 | ⟨g, cap, cur, rfl, hg, r⟩
  · exact .inl h2
  · exact .inr ⟨g, cap, cur, rfl, Nat.le_trans hb hg, r⟩
theorem OwnI.len {A : Option Addr} {n c : Nat} (h : OwnI w base (.slice A n c) l) : n = l.length := by
  obtain ⟨h1, h2⟩ := h
  rcases h2 with ⟨e, h0⟩ | ⟨g, cap, cur, e, hg, r⟩
  · injection e with _ e2 _; omega
  · injection e with _ e2 _
/-- A row of numbers lies in no block of another type. -/
theorem OwnI.ne (h : OwnI w base v l) {g : Nat} {t : TypeId} {cs : Array Value} (hg : Blk w g t cs) (ht : t ≠ 3) : v.ownBlock ≠ some g := by
  obtain ⟨h1, h2⟩ := h
  rcases h2 with ⟨rfl, _⟩ | ⟨g', cap, cur, rfl, _, hh, r⟩
  · simp [Value.ownBlock]
  · intro e
    cases e
    exact Blk.ne_ (t := 3) (t' := t) hh hg (Ne.symm ht) rfl
theorem OwnI.blk (h : OwnI w base v l) {g : Nat} (hg : v.ownBlock = some g) : ∃ cs, Blk w g 3 cs := by
  obtain ⟨h1, h2⟩ := h
  rcases h2 with ⟨rfl, _⟩ | ⟨g', cap, cur, rfl, _, hh, r⟩
  · simp [Value.ownBlock] at hg
  · cases hg
    exact ⟨_, hh⟩
/-- What an append of one number has left. -/
structure GrewI (base : Nat) (w w' : World) (v : Value) (A : Option Addr) (n c : Nat) (l : List Int) : Prop where
  own : OwnI w' base (.slice A n c) l
  below : Below base w w'
  grown : w.grownBy w' v.ownBlock
  at_ : (Value.slice A n c).ownBlock = v.ownBlock ∨ (Value.slice A n c).ownBlock = some w.heap.size
end
theorem step_appI {ops : Array Oper} {o : Oper} {a : Act} {w : World} {K : Act → World → Prop} {Q : Exit → Act → World → Prop} {E : Prop} (s x : Operand) (base : Nat) (v : Value) (l : List Int) (hown : OwnI w base v l) (hbase : base ≤ w.heap.size)
    (b : Nat) (t : Int) (hb : Blk w b 3 #[.int .i64 t]) (hlen : l.length ≤ 100000) (hgd : o.guard = none)
    (ho : o.op = .call { callee := .builtin .append, args := #[s, x], argTypes := #[45, 45] }) (hs : a.eval s = v) (hx : a.eval x = .slice (some ⟨b, 0, none⟩) 1 1)
    (h : ∀ (A' : Option Addr) (n' c' : Nat) (w' : World), GrewI base w w' v A' n' c' (l ++ [t]) → K (a.put o.dst (.slice A' n' c')) w') : if Region.wanted o (yielded ops a.tmps) = true then Oper.wp Try.prog o a w K Q else E := by
  rw [if_pos (by simp [Region.wanted, hgd])]
  obtain ⟨i0, hi, hz0, hz1, hz2⟩ := info_parts Try.infoI
  obtain ⟨v', w', hr, ho', hg, hn, hbl⟩ := run_append_own_at (P := Try.prog) w base 45 o.type 3 i0 _ 1 8 Try.underlying45 hi hz0 hz1 hz2 rfl (by decide) v l.length (l.map (Value.int .i64)) hown ⟨b, 0, none⟩ 1 1 [.int .i64 t] (by simp)
      (fun j u hu => by rw [show (⟨b, 0, none⟩ : Addr).add j = ⟨b, j, none⟩ by rw [Addr.add_mid, Nat.zero_add], hb.cell, List.getElem?_toArray]; exact hu) (fun u hu => by simp at hu; subst hu; rfl) (by unfold maxLen; omega) (by omega) hbase
  unfold Oper.wp
  simp only [execOp, ho, resolve, invoke, builtin, Sem.run_bind, Sem.run_pure, Result.andThen_ok, List.map_toArray, List.map_cons, List.map_nil, hs, hx, hr]
  have hfin : ∃ A' n' c', v' = .slice A' n' c' := by
    obtain ⟨_, h | ⟨g, cap, cur, e, _⟩⟩ := ho'
    · exact ⟨_, _, _, h.1⟩
    · exact ⟨_, _, _, e⟩
  obtain ⟨A', n', c', rfl⟩ := hfin
  refine h A' n' c' w' ⟨?_, (Below.refl base w).grown hg hbase (fun k hk => (hown.lt hk).1), hg, hbl⟩
  unfold OwnI
  rw [List.map_append, List.length_append]
  exact ho'
end Go.Proofs.Ytmanpfenmamflaa
