/-
  A slice of calls that came in.
-/
import Derived.Test.YtmanpfenmamflaaOpenC
namespace Go.Proofs.Ytmanpfenmamflaa
open Go.RowKit Go.ChangeShapes Go.WideShapes Go.ChangeAt Go.Deep Go.Joins

/-- Calls that lie below base. -/
def CallsAt (W : World) (base : Nat) (A : Option Addr) (m : Nat) (ls : List PCall) : Prop :=
  ls.length = m ∧ (m = 0 ∨ ∃ b off, A = some ⟨b, off, none⟩ ∧ b < base ∧ b < W.heap.size ∧ ∀ (j : Nat) (c : PCall), ls[j]? = some c → ∃ p d e t u, (∀ (i : Nat) (v : Value), (callC c p d e t u)[i]? = some v → W.cell? ⟨b, off + j * 11 + i, none⟩ = some v) ∧ CallIs W base c p d e t u)
theorem CallsAt.old {W W' : World} {base : Nat} {A : Option Addr} {m : Nat} {ls : List PCall} (h : CallsAt W base A m ls) (hb : Below base W W') : CallsAt W' base A m ls := by
  obtain ⟨h1, h2 | ⟨b, off, h2, h3, h3', h4⟩⟩ := h
  · exact ⟨h1, .inl h2⟩
  · refine ⟨h1, .inr ⟨b, off, h2, h3, Nat.lt_of_lt_of_le h3' hb.size, fun j c hj => ?_⟩⟩
    obtain ⟨p, d, e, t, u, k1, k2⟩ := h4 j c hj
    exact ⟨p, d, e, t, u, fun i v hv => (hb.cell (p := ⟨b, off + j * 11 + i, none⟩) h3).trans (k1 i v hv), k2.old hb⟩
section
variable {H : Type} {enc : TypeId × Value → H}
theorem open_calls {W : World} {base : Nat} {v : Value} {d : DataW H} {p : List MemPlace} (hval : Value.okWide Try.prog W .any base 36 v) (h : DataW.Trod enc Try.prog W 0 (fun _ => true) true 36 v d p) :
    ∃ A m c ls, v = .slice A m c ∧ m ≤ maxLen ∧ CallsAt W W.heap.size A m ls := by
  obtain ⟨a1, len, cap, rfl⟩ := okWide_slice Try.underlying36 hval
  obtain ⟨fuel, hf⟩ := h
  rcases open_slice Try.underlying36 hf with ⟨hcs, hx⟩ | ⟨a, len', cap', m, n, D, Pl, hcs, _, hl, hm, hmm, hx, hr⟩
  · simp [Value.cells] at hcs
    obtain ⟨rfl, rfl, rfl⟩ := hcs
    exact ⟨_, _, _, [], rfl, Nat.zero_le _, rfl, .inl rfl⟩
  · simp [Value.cells] at hcs
    obtain ⟨rfl, rfl, rfl⟩ := hcs
    simp only [if_true] at hmm
    have hC : Try.prog.cellsOf 27 = 11 := by kernel_rfl
    have key0 : ∀ i, i < len → ∃ c p d e t u, (∀ (j : Nat) (v : Value), (callC c p d e t u)[j]? = some v → W.cell? ((a.add (i * 11)).add j) = some v) ∧ CallIs W W.heap.size c p d e t u := by
      intro i hi
      obtain ⟨cs', hcell, htr⟩ := hr i (by omega)
      rw [hC] at hcell
      obtain ⟨c, p, d, e, t, u, hcs', hI⟩ := call_trod htr
      obtain ⟨_, hcl, hat⟩ := World.cells?_some hcell
      refine ⟨c, p, d, e, t, u, fun j v hv => ?_, hI⟩
      have hj : j < 11 := by
        rcases Nat.lt_or_ge j 11 with h | h
        · exact h
        · rw [Array.getElem?_eq_none (show (callC c p d e t u).size ≤ j from h)] at hv; cases hv
      rw [hat j hj, hcs', Array.getElem?_toList]
      exact hv
    rcases Nat.eq_zero_or_pos len with h0 | h0
    · subst h0
      exact ⟨_, _, _, [], rfl, Nat.zero_le _, rfl, .inl rfl⟩
    · obtain ⟨c0, p0, d0, e0, t0, u0, k0, _⟩ := key0 0 h0
      have hsp0 := addr_of_cell (k0 0 _ rfl) ⟨_, _, .inl rfl⟩
      have ha0 : (a.add (0 * 11)).add 0 = a := by rw [Nat.zero_mul]; rfl
      rw [ha0] at hsp0
      obtain ⟨ab, ao, sp⟩ := a
      obtain ⟨hsp, hlt⟩ := hsp0
      simp only at hsp hlt
      subst hsp
      have key : ∀ i, i < len → ∃ c : PCall, ∃ p d e t u, (∀ (j : Nat) (v : Value), (callC c p d e t u)[j]? = some v → W.cell? ⟨ab, ao + i * 11 + j, none⟩ = some v) ∧ CallIs W W.heap.size c p d e t u := by
        intro i hi
        obtain ⟨c, p, d, e, t, u, g0, g1⟩ := key0 i hi
        have hadd : ∀ j, (((⟨ab, ao, none⟩ : Addr).add (i * 11)).add j) = ⟨ab, ao + i * 11 + j, none⟩ := fun j => by rw [Addr.add_lit, Addr.add_mid]
        exact ⟨c, p, d, e, t, u, fun j v hv => by rw [← hadd]; exact g0 j v hv, g1⟩
      refine ⟨_, len, cap, (List.range len).attach.map fun i => Classical.choose (key i.1 (List.mem_range.1 i.2)), rfl, (show len ≤ maxLen by omega), by simp, .inr ⟨ab, ao, rfl, hlt, hlt, fun j c hj => ?_⟩⟩
      rw [List.getElem?_map] at hj
      cases hq : (List.range len).attach[j]? with
      | none => rw [hq] at hj; cases hj
      | some q =>
        rw [hq] at hj
        simp only [Option.map_some, Option.some.injEq] at hj
        have hqj : q.1 = j := by
          obtain ⟨hl2, hq2⟩ := List.getElem?_eq_some_iff.1 hq
          rw [← hq2]; simp
        have := Classical.choose_spec (key q.1 (List.mem_range.1 q.2))
        rw [hj, hqj] at this
        exact this
end
end Go.Proofs.Ytmanpfenmamflaa
