/-
  Rows of sixteen bytes: append of one.
-/
import Derived.Test.YtgkkafkdgmdihaaAesK
namespace Go.Proofs.Ytgkkafkdgmdihaa
open Go.RowKit

def OwnK (W : World) (base : Nat) (v : Value) (R : Nat) (ks : List UInt8) : Prop := W.ownsRow base 45 16 v R (ks.map B)
theorem Try.infoK : (Try.prog.info? 45).map (fun i => (i.zero, i.size, i.bytes)) = some (some (.agg #[.int .u8 0, .int .u8 0, .int .u8 0, .int .u8 0, .int .u8 0, .int .u8 0, .int .u8 0, .int .u8 0, .int .u8 0, .int .u8 0, .int .u8 0, .int .u8 0, .int .u8 0, .int .u8 0, .int .u8 0, .int .u8 0]), 16, 16) := by kernel_rfl
theorem OwnK.nil (w : World) (base : Nat) : OwnK w base (.slice none 0 0) 0 [] := World.ownsRow_nil _ _ _ _
theorem OwnK.keep {w w' : World} {base R : Nat} {v : Value} {l : List UInt8} (h : OwnK w base v R l) (hk : ∀ g, v.ownBlock = some g → w'.heap[g]? = w.heap[g]?) : OwnK w' base v R l := by
  obtain ⟨h1, h2⟩ := h
  refine ⟨h1, ?_⟩
  rcases h2 with h2 | ⟨g, cap, cur, rfl, hg, hh, r⟩
  · exact .inl h2
  · exact .inr ⟨g, cap, cur, rfl, hg, (hk g rfl).trans hh, r⟩
theorem OwnK.lt {w : World} {base R : Nat} {v : Value} {l : List UInt8} (h : OwnK w base v R l) {g : Nat} (hg : v.ownBlock = some g) : base ≤ g ∧ g < w.heap.size := World.ownsRow.lt h g hg
theorem OwnK.turn {w w' : World} {S : List Nat} {base R : Nat} {v : Value} {l : List UInt8} (h : OwnK w base v R l) (ht : Turn S w w') (hn : ∀ g, v.ownBlock = some g → g ∉ S) : OwnK w' base v R l :=
  h.keep fun g hg => ht.block g (h.lt hg).2 (hn g hg)
theorem OwnK.alloc_ {w : World} {base R : Nat} {v : Value} {l : List UInt8} (h : OwnK w base v R l) (o : Obj) : OwnK (w.alloc o) base v R l :=
  h.keep fun g hg => ((Below.refl w.heap.size w).alloc (Nat.le_refl _) o).block g (h.lt hg).2
theorem OwnK.len {w : World} {base R : Nat} {v : Value} {l : List UInt8} (h : OwnK w base v R l) : l.length = R * 16 := by
  have := h.1; rwa [List.length_map] at this
theorem OwnK.form {w : World} {base R : Nat} {v : Value} {l : List UInt8} (h : OwnK w base v R l) (hR : 0 < R) :
    ∃ g c, v = .slice (some ⟨g, 0, none⟩) R c ∧ base ≤ g ∧ g < w.heap.size ∧ R ≤ c ∧ c ≤ maxLen ∧ ∀ j x, l[j]? = some x → w.cell? ⟨g, j, none⟩ = some (B x) := by
  have h' := h
  obtain ⟨h1, h2⟩ := h
  rcases h2 with ⟨rfl, h0⟩ | ⟨g, cap, cur, rfl, hg, hh, hnc, hm, hcs, htk⟩
  · omega
  · refine ⟨g, cap, rfl, hg, (h'.lt (g := g) rfl).2, hnc, hm, fun j x hx => ?_⟩
    have := World.ownsRow.cells h' (g := g) rfl j (B x) (by rw [List.getElem?_map, hx]; rfl)
    rwa [show (⟨g, 0, none⟩ : Addr).add j = ⟨g, j, none⟩ by rw [Addr.add_mid, Nat.zero_add]] at this
theorem op_appK {o : Oper} {a : Act} {w : World} {K : Act → World → Prop} {Q : Exit → Act → World → Prop} (s x : Operand)
    (ho : o.op = .call { callee := .builtin .append, args := #[s, x], argTypes := #[39, 39] })
    (base R : Nat) (v : Value) (ks : List UInt8) (hs : a.eval s = v) (hown : OwnK w base v R ks) (b : Nat) (l2 : List UInt8) (hx : a.eval x = .slice (some ⟨b, 0, none⟩) 1 1) (hl : l2.length = 16)
    (hc : ∀ j u, (l2.map B)[j]? = some u → w.cell? ⟨b, j, none⟩ = some u) (hR : R ≤ 1000) (hbase : base ≤ w.heap.size)
    (h : ∀ v' w', OwnK w' base v' (R + 1) (ks ++ l2) → w.grownBy w' v.ownBlock → (v'.ownBlock = v.ownBlock ∨ v'.ownBlock = some w.heap.size) → K (a.put o.dst v') w') :
    Oper.wp Try.prog o a w K Q := by
  obtain ⟨i0, hi, hz0, hz1, hz2⟩ := info_parts Try.infoK
  obtain ⟨v', w', hr, ho', hg, hn, hb⟩ := run_append_own_at (P := Try.prog) w base 39 o.type 45 i0 _ 16 16 Try.underlying39 hi hz0 hz1 hz2 rfl (by decide) v R (ks.map B) hown ⟨b, 0, none⟩ 1 1 (l2.map B) (by simp [hl])
      (fun j u hu => by rw [show (⟨b, 0, none⟩ : Addr).add j = ⟨b, j, none⟩ by rw [Addr.add_mid, Nat.zero_add]]; exact hc j u hu) (fun u hu => by obtain ⟨x, _, rfl⟩ := List.mem_map.1 hu; rfl) (by unfold maxLen; omega) (by omega) hbase
  unfold Oper.wp
  simp only [execOp, ho, resolve, invoke, builtin, Sem.run_bind, Sem.run_pure, Result.andThen_ok, List.map_toArray, List.map_cons, List.map_nil, hs, hx, hr]
  refine h v' w' ?_ hg hb
  unfold OwnK
  rw [List.map_append]
  exact ho'
theorem step_appK {ops : Array Oper} {o : Oper} {a : Act} {w : World} {K : Act → World → Prop} {Q : Exit → Act → World → Prop} {E : Prop} (hgd : o.guard = none) (s x : Operand)
    (ho : o.op = .call { callee := .builtin .append, args := #[s, x], argTypes := #[39, 39] })
    (base R : Nat) (v : Value) (ks : List UInt8) (hs : a.eval s = v) (hown : OwnK w base v R ks) (b : Nat) (l2 : List UInt8) (hx : a.eval x = .slice (some ⟨b, 0, none⟩) 1 1) (hl : l2.length = 16)
    (hc : ∀ j u, (l2.map B)[j]? = some u → w.cell? ⟨b, j, none⟩ = some u) (hR : R ≤ 1000) (hbase : base ≤ w.heap.size)
    (h : ∀ v' w', OwnK w' base v' (R + 1) (ks ++ l2) → w.grownBy w' v.ownBlock → (v'.ownBlock = v.ownBlock ∨ v'.ownBlock = some w.heap.size) → K (a.put o.dst v') w') :
    if Region.wanted o (yielded ops a.tmps) = true then Oper.wp Try.prog o a w K Q else E := by
  rw [if_pos (by simp [Region.wanted, hgd])]
  exact op_appK s x ho base R v ks hs hown b l2 hx hl hc hR hbase h
/-- The cells of a block that was made just now. -/
theorem cells_new (w : World) (l2 : List UInt8) (t : TypeId) : ∀ j u, (l2.map B)[j]? = some u → (w.alloc (.cells (l2.map B).toArray t)).cell? ⟨w.heap.size, j, none⟩ = some u := fun j u hu => by
  have hb : Blk (w.alloc (.cells (l2.map B).toArray t)) w.heap.size t (l2.map B).toArray := Blk.new _ _ _
  rw [hb.cell, List.getElem?_toArray]; exact hu
theorem CAt.keys {W : World} {c : Nat} {kv : Value} {bx iv : List UInt8} (h : CAt W c kv bx iv) (v : Value) : CAt (W.setCell ⟨c, 0, none⟩ v) c v bx iv :=
  ⟨h.1, h.2.1, h.2.2.set_ 0 v⟩
/-- A key's cipher in memory: c its place; the round keys in block K, R of them. -/
def Cip (W : World) (b0 c : Nat) (ks : List UInt8) (K R cp : Nat) : Prop :=
  CAt W c (.slice (some ⟨K, 0, none⟩) R cp) boxL invL ∧ b0 ≤ c ∧ b0 ≤ K ∧ K < W.heap.size ∧ c ≠ K ∧ ks.length = 16 * R ∧ 11 ≤ R ∧ R ≤ 15 ∧ R ≤ cp ∧ cp ≤ maxLen ∧ ∀ j x, ks[j]? = some x → W.cell? ⟨K, j, none⟩ = some (B x)
end Go.Proofs.Ytgkkafkdgmdihaa
