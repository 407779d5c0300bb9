/-
  Slice expressions on bytes, whatever the slice (nil too). Contract of baileylaw3.Short.
-/
import Derived.Test.YtdgjjmaiibafhaaDoorReg
namespace Go.Proofs.YtdgjjmaiibafhaaDoor
open Go.RowKit

theorem addr_add0 (A : Option Addr) (h : ∀ ad, A = some ad → ad.spot = none) : A.map (·.add 0) = A := by
  cases A with
  | none => rfl
  | some ad =>
    obtain ⟨b, off, spot⟩ := ad
    have := h _ rfl
    simp only at this
    subst this
    rfl
theorem Rd.spot {w : World} {A : Option Addr} {m c : Nat} {l : List UInt8} (h : Rd w A m c l) : ∀ ad, A = some ad → ad.spot = none := by
  obtain ⟨_, _, _, ⟨rfl, _⟩ | ⟨b, off, rfl, _⟩⟩ := h
  · intro ad h; cases h
  · intro ad h; cases h; rfl
theorem sz8 : (Tryd.prog.info? 5).map (·.size) = some 1 := by kernel_rfl
/-- x[:k] -/
theorem slice_to (A : Option Addr) (m c k : Nat) (hA : ∀ ad, A = some ad → ad.spot = none) (hk : k ≤ c) (w : World) : (Instr.slice 22 (.slice A m c) none (some (.int .i64 (k : Int))) none).run Tryd.prog w = .ok (.slice A k c) w := by
  obtain ⟨i, hi, hz⟩ : ∃ i, Tryd.prog.info? 5 = some i ∧ i.size = 1 := by
    cases h : Tryd.prog.info? 5 with
    | none => have := sz8; rw [h] at this; cases this
    | some i => exact ⟨i, rfl, by have := sz8; rw [h] at this; simpa using this⟩
  unfold Instr.slice
  simp [Sem.run_bind, run_underlying Tryd.underlying22 w, Instr.sliceBounds, Instr.sliceBound, asIntOf, sizeOf, typeInfo, hi]
  rw [if_pos hk, addr_add0 A hA]
  simp
/-- x[k:] -/
theorem slice_from (A : Option Addr) (m c k : Nat) (hk : k ≤ m) (w : World) : (Instr.slice 22 (.slice A m c) (some (.int .i64 (k : Int))) none none).run Tryd.prog w = .ok (.slice (if c = k then A else A.map (·.add k)) (m - k) (c - k)) w := by
  obtain ⟨i, hi, hz⟩ : ∃ i, Tryd.prog.info? 5 = some i ∧ i.size = 1 := by
    cases h : Tryd.prog.info? 5 with
    | none => have := sz8; rw [h] at this; cases this
    | some i => exact ⟨i, rfl, by have := sz8; rw [h] at this; simpa using this⟩
  have h1 : (0 : Int) ≤ k ∧ (k : Int) ≤ m := by omega
  unfold Instr.slice
  simp [Sem.run_bind, run_underlying Tryd.underlying22 w, Instr.sliceBounds, Instr.sliceBound, asIntOf, h1, sizeOf, typeInfo, hi, hz]
  intro h; omega
/-- x[k:j] -/
theorem slice_both (A : Option Addr) (m c k j : Nat) (hk : k ≤ j) (hj : j ≤ c) (w : World) : (Instr.slice 22 (.slice A m c) (some (.int .i64 (k : Int))) (some (.int .i64 (j : Int))) none).run Tryd.prog w = .ok (.slice (if c = k then A else A.map (·.add k)) (j - k) (c - k)) w := by
  obtain ⟨i, hi, hz⟩ : ∃ i, Tryd.prog.info? 5 = some i ∧ i.size = 1 := by
    cases h : Tryd.prog.info? 5 with
    | none => have := sz8; rw [h] at this; cases this
    | some i => exact ⟨i, rfl, by have := sz8; rw [h] at this; simpa using this⟩
  have h1 : (0 : Int) ≤ k ∧ (k : Int) ≤ j := by omega
  have h2 : (0 : Int) ≤ j ∧ (j : Int) ≤ c := by omega
  unfold Instr.slice
  simp [Sem.run_bind, run_underlying Tryd.underlying22 w, Instr.sliceBounds, Instr.sliceBound, asIntOf, h1, h2, sizeOf, typeInfo, hi, hz]
  rw [if_pos hj, if_pos hk]
theorem short_any (A : Option Addr) (m c n : Nat) (l : List UInt8) (w : World) (h : Rd w A m c l) (_hn : n ≤ 100000) :
    Calls Tryd.prog 7 #[.slice A m c, .int .i64 n] w fun e w' => e = .returned (.slice A (min m n) c) ∧ w = w' := by
  have hs := slice_to A m c n h.spot
  have h1 := h.2.1
  have h2 := h.2.2.1
  unfold maxLen at h2
  clear h
  rcases Nat.lt_or_ge n m with hlt | hge
  · have hli : (n : Int) < m := by omega
    have hs2 := hs (by omega)
    have hm : min m n = n := by omega
    have Hm := Lib.hid hm
    clear hm hs
    go_enter Tryd.func7, Tryd.ntmps7
    go_wp2
    go_ret
    exact ⟨by first | rfl | (rw [Hm.out]; rfl), rfl⟩
  · have hli : ¬ ((n : Int) < m) := by omega
    have hm : min m n = m := by omega
    have Hm := Lib.hid hm
    clear hm hs
    go_enter Tryd.func7, Tryd.ntmps7
    go_wp2
    go_ret
    exact ⟨by first | rfl | (rw [Hm.out]; rfl), rfl⟩
theorem Rd.short {w : World} {A : Option Addr} {m c n : Nat} {l : List UInt8} (h : Rd w A m c l) : Rd w A (min m n) c (l.take n) := by
  have h1 := h.front (k := min m n) (Nat.min_le_left _ _)
  have e : l.take (min m n) = l.take n := by
    have := h.1
    rw [this]
    rcases Nat.le_total l.length n with h | h
    · rw [Nat.min_eq_left h, List.take_of_length_le (Nat.le_refl _), List.take_of_length_le h]
    · rw [Nat.min_eq_right h]
  rwa [e] at h1
theorem Rd.cut_ex {w : World} {A : Option Addr} {m c k : Nat} {l : List UInt8} (h : Rd w A m c l) (hk : k ≤ m) :
    ∃ A' n' c', n' = m - k ∧ (∀ w, (Instr.slice 22 (.slice A m c) (some (.int .i64 (k : Int))) none none).run Tryd.prog w = .ok (.slice A' n' c') w) ∧ Rd w A' n' c' (l.drop k) :=
  ⟨_, _, _, rfl, slice_from A m c k hk, h.cut hk⟩
theorem Rd.cut_ex2 {w : World} {A : Option Addr} {m c k : Nat} {l : List UInt8} (h : Rd w A m c l) (hk : k ≤ m) :
    ∃ A' n' c', n' = m - k ∧ (∀ w, (Instr.slice 22 (.slice A m c) (some (.int .i64 (k : Int))) none none).run Tryd.prog w = .ok (.slice A' n' c') w) ∧ Rd w A' n' c' (l.drop k) ∧ (∀ ad', A' = some ad' → ∃ ad, A = some ad ∧ ad'.block = ad.block) := by
  refine ⟨_, _, _, rfl, slice_from A m c k hk, h.cut hk, ?_⟩
  intro ad' had
  split at had
  · exact ⟨ad', had, rfl⟩
  · cases A with
    | none => cases had
    | some ad =>
      simp only [Option.map_some, Option.some.injEq] at had
      refine ⟨ad, rfl, ?_⟩
      rw [← had]
      unfold Addr.add; split <;> rfl
end Go.Proofs.YtdgjjmaiibafhaaDoor
