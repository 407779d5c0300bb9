/-
  Slice expressions on bytes, whatever the slice (nil too). Contract of baileylaw3.Short.
-/
import Derived.Test.YtnpncbpbeikcaaaReg
namespace Go.Proofs.Ytnpncbpbeikcaaa
open Go.RowKit

theorem addr_add0 (A : Option Addr) (h : ∀ ad, A = some ad → ad.spot = none) : A.map (·.add 0) = A := by
  cases A with
  | none => rfl
  | some ad =>
    obtain ⟨b, off, spot⟩ := ad
    have := h _ rfl
    simp only at this
    subst this
    rfl
theorem Rd.spot {w : World} {A : Option Addr} {m c : Nat} {l : List UInt8} (h : Rd w A m c l) : ∀ ad, A = some ad → ad.spot = none := by
  obtain ⟨_, _, _, ⟨rfl, _⟩ | ⟨b, off, rfl, _⟩⟩ := h
  · intro ad h; cases h
  · intro ad h; cases h; rfl
theorem sz8 : (Try.prog.info? 5).map (·.size) = some 1 := by kernel_rfl
theorem Rd.short {w : World} {A : Option Addr} {m c n : Nat} {l : List UInt8} (h : Rd w A m c l) : Rd w A (min m n) c (l.take n) := by
  have h1 := h.front (k := min m n) (Nat.min_le_left _ _)
  have e : l.take (min m n) = l.take n := by
    have := h.1
    rw [this]
    rcases Nat.le_total l.length n with h | h
    · rw [Nat.min_eq_left h, List.take_of_length_le (Nat.le_refl _), List.take_of_length_le h]
    · rw [Nat.min_eq_right h]
  rwa [e] at h1
end Go.Proofs.Ytnpncbpbeikcaaa
