/-
  x[:k] and x[k:] of a row, whatever its elements.
-/
import Derived.Test.YtgkhhinjdojbhaaRowE
namespace Go.Proofs.Ytgkhhinjdojbhaa
open Go.RowKit

section
variable {α : Type} (E : ETy α)
theorem ETy.info2 : ∃ i, Try.prog.info? E.t = some i ∧ i.size = E.sz := by
  obtain ⟨i0, hi, hz0, hz1, hz2⟩ := info_parts E.info
  exact ⟨i0, hi, hz1⟩
theorem add00 (A : Option Addr) : A.map (·.add 0) = A := by cases A <;> rfl
theorem slice_toE (A : Option Addr) (m c k : Nat) (hk : k ≤ c) (w : World) : (Instr.slice E.ts (.slice A m c) none (some (.int .i64 (k : Int))) none).run Try.prog w = .ok (.slice A k c) w := by
  obtain ⟨i, hi, hz⟩ := E.info2
  unfold Instr.slice
  simp [Sem.run_bind, run_underlying E.und w, Instr.sliceBounds, Instr.sliceBound, asIntOf, sizeOf, typeInfo, hi, hz]
  rw [if_pos hk, add00 A]
  simp
theorem slice_fromE (A : Option Addr) (m c k : Nat) (hk : k ≤ m) (w : World) : (Instr.slice E.ts (.slice A m c) (some (.int .i64 (k : Int))) none none).run Try.prog w = .ok (.slice (if c = k then A else A.map (·.add (k * E.sz))) (m - k) (c - k)) w := by
  obtain ⟨i, hi, hz⟩ := E.info2
  have h1 : (0 : Int) ≤ k ∧ (k : Int) ≤ m := by omega
  unfold Instr.slice
  simp [Sem.run_bind, run_underlying E.und w, Instr.sliceBounds, Instr.sliceBound, asIntOf, h1, sizeOf, typeInfo, hi, hz]
  intro h; omega
end
section
variable {α : Type} {E : ETy α} {w : World} {A : Option Addr} {m : Nat} {l : List α}
theorem ETy.all_take (l : List α) (k : Nat) (u : Value) (j : Nat) (h : (E.all (l.take k))[j]? = some u) : (E.all l)[j]? = some u := by
  have : E.all l = E.all (l.take k) ++ E.all (l.drop k) := by rw [← E.all_append, List.take_append_drop]
  rw [this, List.getElem?_append_left (List.getElem?_eq_some_iff.1 h).1]
  exact h
theorem ETy.all_drop (l : List α) (k : Nat) (hk : k ≤ l.length) (u : Value) (j : Nat) (h : (E.all (l.drop k))[j]? = some u) : (E.all l)[k * E.sz + j]? = some u := by
  have : E.all l = E.all (l.take k) ++ E.all (l.drop k) := by rw [← E.all_append, List.take_append_drop]
  have hl : (E.all (l.take k)).length = k * E.sz := by rw [E.all_len, List.length_take, Nat.min_eq_left hk]
  rw [this, List.getElem?_append_right (by omega), hl, Nat.add_sub_cancel_left]
  exact h
theorem RdC.take (h : RdC E w A m l) (k : Nat) (hk : k ≤ m) : RdC E w A k (l.take k) := by
  obtain ⟨h1, h2⟩ := h
  refine ⟨by rw [List.length_take]; omega, ?_⟩
  rcases h2 with h2 | ⟨g, off, hA, hg, hc⟩
  · exact .inl (by omega)
  · exact .inr ⟨g, off, hA, hg, fun j u hu => hc j u (ETy.all_take _ _ _ _ hu)⟩
theorem RdC.drop (h : RdC E w A m l) (c k : Nat) (hk : k ≤ m) (hmc : m ≤ c) : RdC E w (if c = k then A else A.map (·.add (k * E.sz))) (m - k) (l.drop k) := by
  obtain ⟨h1, h2⟩ := h
  refine ⟨by rw [List.length_drop]; omega, ?_⟩
  rcases h2 with h2 | ⟨g, off, rfl, hg, hc⟩
  · exact .inl (by omega)
  · by_cases hck : c = k
    · left; omega
    · right
      refine ⟨g, off + k * E.sz, by rw [if_neg hck]; simp [Addr.add_mid], hg, fun j u hu => ?_⟩
      rw [Nat.add_assoc]
      exact hc _ u (ETy.all_drop _ _ (by omega) _ _ hu)
end
end Go.Proofs.Ytgkhhinjdojbhaa
