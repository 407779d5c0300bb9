/-
  How far the table's loop is, told by the element it is at.
-/
import Derived.Test.YtgkkafkdgmdihaaAesP
namespace Go.Proofs.Ytgkkafkdgmdihaa
open Go.RowKit

def mz (p : UInt8) : Nat := (1 :: walkP 254 1).idxOf p
/-- Whether n more places, from number k on, tell their number. -/
def chkM : Nat → Nat → UInt8 → Bool
  | 0, _, _ => true
  | n + 1, k, p => (mz p == k) && chkM n (k + 1) (stP p)
theorem chkM_all : chkM 255 0 1 = true := by decide +kernel
theorem chkM_at (n : Nat) : ∀ (k : Nat), chkM n k (itP k) = true → ∀ j, k ≤ j → j < k + n → mz (itP j) = j := by
  induction n with
  | zero => intro k _ j h1 h2; omega
  | succ n ih =>
    intro k hc j h1 h2
    unfold chkM at hc
    simp only [Bool.and_eq_true, beq_iff_eq] at hc
    rcases Nat.lt_or_ge k j with hlt | hge
    · exact ih (k + 1) hc.2 j (by omega) (by omega)
    · obtain rfl : j = k := by omega
      exact hc.1
theorem mz_at (j : Nat) (h : j < 255) : mz (itP j) = j := chkM_at 255 0 chkM_all j (by omega) (by omega)
end Go.Proofs.Ytgkkafkdgmdihaa
