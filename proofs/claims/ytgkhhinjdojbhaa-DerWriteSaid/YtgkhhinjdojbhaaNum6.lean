/-
  Numbers plainly: bytes of a number.
-/
import Derived.Test.YtgkhhinjdojbhaaNum5
namespace Go.Proofs.Ytgkhhinjdojbhaa

theorem byteAt_succ (v e : Nat) : byteAt v (e + 1) = byteAt (v / 256) e := by
  unfold byteAt
  rw [Nat.pow_succ, Nat.mul_comm, Nat.div_div_eq_div_mul]
theorem byteAt_zero (v : Nat) : byteAt v 0 = UInt8.ofNat (v % 256) := by unfold byteAt; rw [Nat.pow_zero, Nat.div_one]
theorem beN_zero (v : Nat) : beN 0 v = [] := rfl
theorem beN_succ (k v : Nat) : beN (k + 1) v = beN k (v / 256) ++ [UInt8.ofNat (v % 256)] := by
  unfold beN
  rw [List.range_succ, List.map_append]
  congr 1
  · refine List.map_congr_left (fun j hj => ?_)
    have hj := List.mem_range.1 hj
    rw [show k + 1 - 1 - j = (k - 1 - j) + 1 by omega, byteAt_succ]
  · simp [byteAt_zero]
theorem beN_len (n v : Nat) : (beN n v).length = n := by unfold beN; simp
theorem beVal_beN : ∀ (n v : Nat), v < 256 ^ n → beVal (beN n v) = v
  | 0, v, h => by simp at h; subst h; rfl
  | n + 1, v, h => by
    rw [beN_succ, beVal_snoc, beVal_beN n (v / 256) (by rw [Nat.pow_succ] at h; omega), byte_nat]; omega
theorem bl_zero : bl 0 = 0 := rfl
theorem bl_pos {n : Nat} (h : n ≠ 0) : 1 ≤ bl n := by unfold bl; rw [if_neg h]; omega
theorem bl_lt (n : Nat) : n < 2 ^ bl n := by
  unfold bl
  split
  · omega
  · exact Nat.lt_log2_self
theorem bl_le {n k : Nat} (h : n < 2 ^ k) : bl n ≤ k := by
  unfold bl
  split
  · omega
  · rename_i h0
    have := (Nat.log2_lt h0).2 h
    omega
theorem beN_min (v : Nat) : beN ((bl v + 7) / 8) v = beMin v := by
  induction v using Nat.strongRecOn with
  | _ v ih =>
    by_cases h : v = 0
    · subst h; rw [beMin_zero]; rfl
    · have e : (bl v + 7) / 8 = (bl (v / 256) + 7) / 8 + 1 := by
        by_cases h2 : v < 256
        · rw [show v / 256 = 0 by omega, bl_zero]
          have := bl_pos h
          have := bl_le (n := v) (k := 8) (by omega)
          omega
        · have := bl_shift (n := v) 8 (by omega)
          rw [show (2 : Nat) ^ 8 = 256 from rfl] at this
          omega
      rw [e, beN_succ, ih _ (by omega), ← beMin_pos h]
end Go.Proofs.Ytgkhhinjdojbhaa
