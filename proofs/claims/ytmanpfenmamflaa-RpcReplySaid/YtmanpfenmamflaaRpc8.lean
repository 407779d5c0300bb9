/-
  Rows of attributes of the call's own; append of one; the reader's attributes.
-/
import Derived.Test.YtmanpfenmamflaaRpc7
namespace Go.Proofs.Ytmanpfenmamflaa
open Go.RowKit

def atC (vs : List (Int × Sl)) : List Value := vs.flatMap fun a => [.int .i64 a.1, .slice a.2.A a.2.m a.2.c]
theorem atC_append (a b : List (Int × Sl)) : atC (a ++ b) = atC a ++ atC b := by unfold atC; rw [List.flatMap_append]
theorem atC_len (a : List (Int × Sl)) : (atC a).length = a.length * 2 := by
  induction a with
  | nil => rfl
  | cons x a ih => show (_ :: _ :: atC a).length = _; rw [List.length_cons, List.length_cons, ih, List.length_cons]; omega
theorem atC_get : ∀ (vs : List (Int × Sl)) (j : Nat) (t : Int) (s : Sl), vs[j]? = some (t, s) → (atC vs)[j * 2]? = some (.int .i64 t) ∧ (atC vs)[j * 2 + 1]? = some (.slice s.A s.m s.c)
  | [], j, t, s, h => by simp at h
  | x :: vs, 0, t, s, h => by simp at h; subst h; exact ⟨rfl, rfl⟩
  | x :: vs, j + 1, t, s, h => by
    have := atC_get vs j t s (by simpa using h)
    rw [show (j + 1) * 2 = j * 2 + 2 by omega, show j * 2 + 2 + 1 = j * 2 + 1 + 2 by omega]
    exact this
def OwnT (W : World) (base : Nat) (v : Value) (vs : List (Int × Sl)) : Prop := W.ownsRow base 50 2 v vs.length (atC vs)
theorem Try.infoT : (Try.prog.info? 50).map (fun i => (i.zero, i.size, i.bytes)) = some (some (.agg #[.int .i64 0, .slice none 0 0]), 2, 32) := by kernel_rfl
theorem OwnT.keep {w w' : World} {base : Nat} {v : Value} {vs : List (Int × Sl)} (h : OwnT w base v vs) (hk : ∀ g, v.ownBlock = some g → w'.heap[g]? = w.heap[g]?) : OwnT w' base v vs := by
  obtain ⟨h1, h2⟩ := h
  refine ⟨h1, ?_⟩
  rcases h2 with h2 | ⟨g, cap, cur, rfl, hg, hh, r⟩
  · exact .inl h2
  · exact .inr ⟨g, cap, cur, rfl, hg, (hk g rfl).trans hh, r⟩
theorem OwnT.lt {w : World} {base : Nat} {v : Value} {vs : List (Int × Sl)} (h : OwnT w base v vs) {g : Nat} (hg : v.ownBlock = some g) : base ≤ g ∧ g < w.heap.size := World.ownsRow.lt h g hg
/-- The rows of an attribute list: its own, and its values' own. -/
def OwnAts (W : World) (base : Nat) (s : Sl) (l : List (Int × List UInt8)) : Prop :=
  ∃ vs : List (Int × Sl), vs.length = l.length ∧ OwnT W base (.slice s.A s.m s.c) vs ∧ ∀ (j : Nat) (t : Int) (x : List UInt8), l[j]? = some (t, x) → ∃ sj : Sl, vs[j]? = some (t, sj) ∧ Own W base (.slice sj.A sj.m sj.c) x
theorem OwnAts.nil (W : World) (base : Nat) : OwnAts W base ⟨none, 0, 0⟩ [] := ⟨[], rfl, World.ownsRow_nil _ _ _ _, fun j t x h => by simp at h⟩
theorem OwnAts.turn {W W' : World} {base : Nat} {s : Sl} {l : List (Int × List UInt8)} {S : List Nat} (h : OwnAts W base s l) (ht : Turn S W W') (hS : ∀ x ∈ S, x < base) : OwnAts W' base s l := by
  obtain ⟨vs, h1, h2, h3⟩ := h
  refine ⟨vs, h1, h2.keep (fun g hg => ht.block g (h2.lt hg).2 (fun hm => by have := hS g hm; have := (h2.lt hg).1; omega)), fun j t x hj => ?_⟩
  obtain ⟨sj, k1, k2⟩ := h3 j t x hj
  exact ⟨sj, k1, k2.turn ht (fun g hg hm => by have := hS g hm; have := (k2.lt hg).1; omega)⟩
theorem OwnAts.below {W W' : World} {base : Nat} {s : Sl} {l : List (Int × List UInt8)} (h : OwnAts W base s l) (hb : Below W.heap.size W W') : OwnAts W' base s l := h.turn (Turn.of_below [] hb) (by simp)
theorem OwnAts.mono {W : World} {base base' : Nat} {s : Sl} {l : List (Int × List UInt8)} (h : OwnAts W base s l) (hb : base' ≤ base) : OwnAts W base' s l := by
  obtain ⟨vs, h1, ⟨h2, h2'⟩, h3⟩ := h
  refine ⟨vs, h1, ⟨h2, ?_⟩, fun j t x hj => ?_⟩
  · rcases h2' with h2' | ⟨g, cap, cur, e, hg, r⟩
    · exact .inl h2'
    · exact .inr ⟨g, cap, cur, e, Nat.le_trans hb hg, r⟩
  · obtain ⟨sj, k1, k2⟩ := h3 j t x hj
    exact ⟨sj, k1, k2.mono hb⟩
theorem OwnAts.len {W : World} {base : Nat} {s : Sl} {l : List (Int × List UInt8)} (h : OwnAts W base s l) : s.m = l.length := by
  obtain ⟨vs, h1, ⟨h2, h2'⟩, h3⟩ := h
  rcases h2' with ⟨e, h0⟩ | ⟨g, cap, cur, e, hg, r⟩
  · injection e with _ e2 _; omega
  · injection e with _ e2 _; omega
theorem OwnAts.at_ {W : World} {base : Nat} {s : Sl} {l : List (Int × List UInt8)} (h : OwnAts W base s l) : AtsAt W W.heap.size s.A s.m l := by
  have hm := h.len
  obtain ⟨vs, h1, h2, h3⟩ := h
  have h2k := h2
  refine ⟨hm.symm, ?_⟩
  obtain ⟨_, h2'⟩ := h2
  rcases h2' with ⟨e, h0⟩ | ⟨g, cap, cur, e, hg, hh, r⟩
  · left; injection e with _ e2 _
  · right
    have e1 : s.A = some ⟨g, 0, none⟩ := by injection e
    have hlt : g < W.heap.size := (h2k.lt (g := g) (by rw [e]; rfl)).2
    refine ⟨g, 0, e1, hlt, hlt, fun j t x hj => ?_⟩
    obtain ⟨sj, k1, k2⟩ := h3 j t x hj
    obtain ⟨a1, a2⟩ := atC_get vs j t sj k1
    have hc := fun i u hu => World.ownsRow.cells h2k (g := g) (by rw [e]; rfl) i u hu
    have hadd : ∀ i, (⟨g, 0, none⟩ : Addr).add i = ⟨g, 0 + i, none⟩ := fun i => by rw [Addr.add_mid]
    have c1 := hc _ _ a1
    have c2 := hc _ _ a2
    rw [hadd] at c1 c2
    exact ⟨c1, sj.A, sj.m, sj.c, c2, .inl ⟨k2.rd, fun ad had => k2.rd.lt ad had⟩⟩
theorem OwnAts.max {W : World} {base : Nat} {s : Sl} {l : List (Int × List UInt8)} (h : OwnAts W base s l) : s.m ≤ maxLen := by
  obtain ⟨vs, h1, ⟨h2, h2'⟩, h3⟩ := h
  rcases h2' with ⟨e, h0⟩ | ⟨g, cap, cur, e, hg, hh, hnc, hmx, r⟩
  · injection e with _ e2 _; rw [e2]; exact Nat.zero_le _
  · injection e with _ e2 _; rw [e2]; exact Nat.le_trans hnc hmx
/-- append of one attribute, that stands in a block of its own. -/
theorem wp_appT {ops : Array Oper} {rest : List Oper} {o : Oper} {a : Act} {w : World} {Q : Exit → Act → World → Prop} (s x : Operand) (base : Nat) (v : Sl) (l : List (Int × List UInt8)) (hown : OwnAts w base v l) (hbase : base ≤ w.heap.size)
    (b : Nat) (t : Int) (sx : Sl) (y : List UInt8) (hb : Blk w b 50 #[.int .i64 t, .slice sx.A sx.m sx.c]) (hy : Own w base (.slice sx.A sx.m sx.c) y) (hlen : l.length ≤ 100000) (hgd : o.guard = none)
    (ho : o.op = .call { callee := .builtin .append, args := #[s, x], argTypes := #[25, 25] }) (hs : a.eval s = .slice v.A v.m v.c) (hx : a.eval x = .slice (some ⟨b, 0, none⟩) 1 1)
    (h : ∀ (A' : Option Addr) (n' c' : Nat) (w' : World), OwnAts w' base ⟨A', n', c'⟩ (l ++ [(t, y)]) → Below base w w' → wpList Try.prog ops Q rest (a.put o.dst (.slice A' n' c')) w') : wpList Try.prog ops Q (o :: rest) a w := by
  obtain ⟨vs, h1, h2, h3⟩ := hown
  obtain ⟨i0, hi, hz0, hz1, hz2⟩ := info_parts Try.infoT
  obtain ⟨v', w', hr, ho', hg, hn, hbl⟩ := run_append_own_at (P := Try.prog) w base 25 o.type 50 i0 _ 2 32 Try.underlying25 hi hz0 hz1 hz2 rfl (by decide) (.slice v.A v.m v.c) vs.length (atC vs) h2 ⟨b, 0, none⟩ 1 1 [.int .i64 t, .slice sx.A sx.m sx.c] (by simp)
      (fun j u hu => by rw [show (⟨b, 0, none⟩ : Addr).add j = ⟨b, j, none⟩ by rw [Addr.add_mid, Nat.zero_add], hb.cell, List.getElem?_toArray]; exact hu) (fun u hu => by simp at hu; rcases hu with rfl | rfl <;> rfl) (by unfold maxLen; omega) (by omega) hbase
  refine wpList_plain hgd fun K hK => ?_
  unfold Oper.wp
  simp only [execOp, ho, resolve, invoke, builtin, Sem.run_bind, Sem.run_pure, Result.andThen_ok, List.map_toArray, List.map_cons, List.map_nil, hs, hx, hr]
  have hfin : ∃ A' n' c', v' = .slice A' n' c' := by
    obtain ⟨_, h | ⟨g, cap, cur, e, _⟩⟩ := ho'
    · exact ⟨_, _, _, h.1⟩
    · exact ⟨_, _, _, e⟩
  obtain ⟨A', n', c', rfl⟩ := hfin
  refine hK _ _ (h A' n' c' w' ⟨vs ++ [(t, sx)], by simp [h1], ?_, fun j t' x' hj => ?_⟩ ((Below.refl base w).grown hg hbase (fun k hk => (h2.lt hk).1)))
  · unfold OwnT
    rw [atC_append, List.length_append]
    exact ho'
  · have hne : ∀ {z : Value} {q : List UInt8}, Own w base z q → Own w' base z q := fun {z} {q} hz => by
      refine hz.keep (fun g hgz => hg.block g (hz.lt hgz).2 (fun e => ?_))
      obtain ⟨_, h | ⟨g', cap, cur, e', _, hh, _⟩⟩ := h2
      · rw [h.1] at e; cases e
      · rw [e'] at e
        have : g' = g := by cases e; rfl
        subst this
        exact hz.ne (t := 50) hh (by decide) hgz
    rcases Nat.lt_or_ge j l.length with hjl | hjl
    · rw [List.getElem?_append_left hjl] at hj
      obtain ⟨sj, k1, k2⟩ := h3 j t' x' hj
      exact ⟨sj, by rw [List.getElem?_append_left (by omega)]; exact k1, hne k2⟩
    · have hjj : j = l.length := by
        rcases Nat.lt_or_ge l.length j with h | h
        · rw [List.getElem?_eq_none (by simp; omega)] at hj; cases hj
        · omega
      subst hjj
      rw [List.getElem?_append_right (Nat.le_refl _), Nat.sub_self] at hj
      simp at hj
      obtain ⟨rfl, rfl⟩ := hj
      refine ⟨sx, ?_, hne hy⟩
      rw [List.getElem?_append_right (by omega), h1, Nat.sub_self]; rfl
end Go.Proofs.Ytmanpfenmamflaa
