/-
  Contracts of hashes.MGF1 and of the reference's: the mask.
-/
import Derived.Test.YtdgjjmaiibafhaaDoorMade
import Derived.Test.YtdgjjmaiibafhaaDoorShort
namespace Go.Proofs.YtdgjjmaiibafhaaDoor
open Go.RowKit

/-- x[:k:k] -/
theorem slice_three (A : Option Addr) (m c k : Nat) (hA : ∀ ad, A = some ad → ad.spot = none) (hk : k ≤ c) (w : World) : (Instr.slice 22 (.slice A m c) none (some (.int .i64 (k : Int))) (some (.int .i64 (k : Int)))).run Tryd.prog w = .ok (.slice A k k) w := by
  obtain ⟨i, hi, hz⟩ : ∃ i, Tryd.prog.info? 5 = some i ∧ i.size = 1 := by
    cases h : Tryd.prog.info? 5 with
    | none => have := sz8; rw [h] at this; cases this
    | some i => exact ⟨i, rfl, by have := sz8; rw [h] at this; simpa using this⟩
  unfold Instr.slice
  simp [Sem.run_bind, run_underlying Tryd.underlying22 w, Instr.sliceBounds, Instr.sliceBound, asIntOf, sizeOf, typeInfo, hi]
  rw [if_pos hk, addr_add0 A hA]
  simp
/-- Bytes as a result. -/
def RdRes (w : World) (l : List UInt8) (e : Ending) (w' : World) : Prop := ∃ A m c, e = .returned (.slice A m c) ∧ Rd w' A m c l ∧ Below w.heap.size w w'
theorem RowRes.rd {w w' : World} {l : List UInt8} {e : Ending} (h : RowRes w l e w') : RdRes w l e w' := by
  obtain ⟨A, m, c, he, ho, hb⟩ := h
  exact ⟨A, m, c, he, ho.rd, hb⟩
/-- The first k pieces of the mask. -/
def mgf (kind : Int) (seed : List UInt8) : Nat → List UInt8
  | 0 => []
  | k + 1 => mgf kind seed k ++ rof kind (seed ++ num4 (k : Int))
theorem num4_len (n : Int) : (num4 n).length = 4 := rfl
theorem mgf_len (kind : Int) (hk : 1 ≤ kind ∧ kind ≤ 5) (seed : List UInt8) (hs : seed.length ≤ 1000) (k : Nat) : (mgf kind seed k).length = k * (hsize kind).toNat := by
  induction k with
  | zero => simp [mgf]
  | succ k ih => rw [mgf, List.length_append, ih, rof_len kind hk _ (by rw [List.length_append, num4_len]; omega), Nat.add_mul]; omega
theorem mgf_more (kind : Int) (seed : List UInt8) (k j : Nat) : ∃ r, mgf kind seed (k + j) = mgf kind seed k ++ r := by
  induction j with
  | zero => exact ⟨[], by simp⟩
  | succ j ih =>
    obtain ⟨r, hr⟩ := ih
    exact ⟨r ++ rof kind (seed ++ num4 ((k + j : Nat) : Int)), by rw [← Nat.add_assoc, mgf, hr, List.append_assoc]⟩
/-- The mask of n bytes. -/
def mask (kind : Int) (seed : List UInt8) (n : Nat) : List UInt8 := (mgf kind seed n).take n
theorem mask_of (kind : Int) (seed : List UInt8) (n k : Nat) (hk : k ≤ n) (hn : n ≤ (mgf kind seed k).length) : mask kind seed n = (mgf kind seed k).take n := by
  obtain ⟨r, hr⟩ := mgf_more kind seed k (n - k)
  unfold mask
  rw [show n = k + (n - k) from by omega, hr, List.take_append_of_le_length (by omega)]
theorem hsize_pos (kind : Int) (hk : 1 ≤ kind ∧ kind ≤ 5) : 20 ≤ (hsize kind).toNat := by
  have hcase : kind = 1 ∨ kind = 2 ∨ kind = 3 ∨ kind = 4 ∨ kind = 5 := by omega
  rcases hcase with rfl | rfl | rfl | rfl | rfl <;> decide
end Go.Proofs.YtdgjjmaiibafhaaDoor
