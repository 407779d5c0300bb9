/-
  The key schedule of AES, plainly.
-/
import Derived.Test.YtgkkafkdgmdihaaAes3
namespace Go.Proofs.Ytgkkafkdgmdihaa
open Go.RowKit

def kT (n i : Nat) (rc t0 t1 t2 t3 : UInt8) : List UInt8 :=
  if i % n = 0 then [sb t1 ^^^ rc, sb t2, sb t3, sb t0] else if n > 6 ∧ i % n = 4 then [sb t0, sb t1, sb t2, sb t3] else [t0, t1, t2, t3]
theorem kT_len (n i : Nat) (rc t0 t1 t2 t3 : UInt8) : (kT n i rc t0 t1 t2 t3).length = 4 := by
  unfold kT; split
  · rfl
  · split <;> rfl
/-- The bytes that one step adds to w: i words stand. -/
def kAdd (n i : Nat) (rc : UInt8) (w : List UInt8) : List UInt8 :=
  List.zipWith (· ^^^ ·) ((w.drop (4 * (i - n))).take 4) (kT n i rc (w.getD (4 * i - 4) 0) (w.getD (4 * i - 3) 0) (w.getD (4 * i - 2) 0) (w.getD (4 * i - 1) 0))
def kRc (n i : Nat) (rc : UInt8) : UInt8 := if i % n = 0 then tw rc else rc
/-- The schedule behind m steps: the words, the round's constant. -/
def kW (n : Nat) (l : List UInt8) : Nat → List UInt8 × UInt8
  | 0 => (l, 1)
  | m + 1 => ((kW n l m).1 ++ kAdd n (n + m) (kW n l m).2 (kW n l m).1, kRc n (n + m) (kW n l m).2)
theorem kAdd_len (n i : Nat) (rc : UInt8) (w : List UInt8) (h : 4 * (i - n) + 4 ≤ w.length) : (kAdd n i rc w).length = 4 := by
  unfold kAdd
  rw [List.length_zipWith, List.length_take, List.length_drop, kT_len]; omega
theorem kW_len (n : Nat) (l : List UInt8) (hn : 0 < n) (hl : l.length = 4 * n) (m : Nat) : (kW n l m).1.length = 4 * (n + m) := by
  induction m with
  | zero => exact hl
  | succ m ih =>
    show ((kW n l m).1 ++ kAdd n (n + m) (kW n l m).2 (kW n l m).1).length = _
    rw [List.length_append, ih, kAdd_len _ _ _ _ (by rw [ih]; omega)]; omega
/-- The round keys of a key. -/
def rks (l : List UInt8) : List UInt8 := (kW (l.length / 4) l (3 * (l.length / 4) + 28)).1
theorem rks_len (l : List UInt8) (h : l.length = 16 ∨ l.length = 24 ∨ l.length = 32) : (rks l).length = 16 * (l.length / 4 + 7) := by
  unfold rks
  rw [kW_len _ _ (by omega) (by omega)]; omega
end Go.Proofs.Ytgkkafkdgmdihaa
