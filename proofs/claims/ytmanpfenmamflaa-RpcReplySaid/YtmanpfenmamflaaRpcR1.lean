/-
  The reference's num.
-/
import Derived.Test.YtmanpfenmamflaaRpc4
namespace Go.Proofs.Ytmanpfenmamflaa
open Go.RowKit

def numL (n size j : Nat) : List UInt8 := (List.range size).map fun p => if p + j < size then 0 else UInt8.ofNat (n / 256 ^ (size - 1 - p) % 256)
theorem numL_len (n size j : Nat) : (numL n size j).length = size := by unfold numL; simp
theorem numL_zero (n size : Nat) : numL n size 0 = zs size := by
  unfold numL zs
  apply List.ext_getElem
  · simp
  · intro p h1 h2
    simp at h1
    simp [h1]
theorem numL_get (n size j p : Nat) (h : p < size) : (numL n size j)[p]? = some (if p + j < size then 0 else UInt8.ofNat (n / 256 ^ (size - 1 - p) % 256)) := by
  unfold numL
  rw [List.getElem?_map, List.getElem?_range h]; rfl
theorem numL_set (n size j : Nat) (hj : j < size) : (numL n size j).set (size - 1 - j) (UInt8.ofNat (n / 256 ^ j % 256)) = numL n size (j + 1) := by
  apply List.ext_getElem?
  intro p
  rw [List.getElem?_set]
  rcases Nat.lt_or_ge p size with h1 | h1
  · rw [numL_get n size (j + 1) p h1, numL_get n size j p h1, numL_len]
    by_cases hp : size - 1 - j = p
    · rw [if_pos hp, if_pos (by omega), if_neg (by omega), show size - 1 - p = j by omega]
    · rw [if_neg hp]
      by_cases hc : p + j < size
      · rw [if_pos hc, if_pos (by omega)]
      · rw [if_neg hc, if_neg (by omega)]
  · rw [if_neg (by omega), List.getElem?_eq_none (by rw [numL_len]; exact h1), List.getElem?_eq_none (by rw [numL_len]; exact h1)]
theorem byte_of (n k : Nat) (h : n < 18446744073709551616) (hk : k < 8) : (UInt64.ofNat n >>> UInt64.ofNat (8 * k)).toUInt8 = UInt8.ofNat (n / 256 ^ k % 256) := by
  apply UInt8.toNat_inj.1
  rw [UInt64.toNat_toUInt8, UInt64.toNat_shiftRight, UInt64.toNat_ofNat', UInt64.toNat_ofNat', UInt8.toNat_ofNat', Nat.mod_eq_of_lt (show n < 2 ^ 64 by omega), Nat.mod_eq_of_lt (show 8 * k < 2 ^ 64 by omega), Nat.mod_eq_of_lt (show 8 * k < 64 by omega), Nat.shiftRight_eq_div_pow, Nat.pow_mul, show (2 ^ 8 : Nat) = 256 from rfl, Nat.mod_mod]
theorem numL_all (n size : Nat) (h : n < 18446744073709551616) (hs : size = 1 ∨ size = 2 ∨ size = 4) : numL n size size = num n size := by
  have h0 := byte_of n 0 h (by omega)
  have h1 := byte_of n 1 h (by omega)
  have h2 := byte_of n 2 h (by omega)
  have h3 := byte_of n 3 h (by omega)
  have e0 : (UInt64.ofNat n >>> UInt64.ofNat (8 * 0)).toUInt8 = (UInt64.ofNat n).toUInt8 := by
    apply UInt8.toNat_inj.1
    simp
  rw [e0] at h0
  rcases hs with rfl | rfl | rfl
  · show [_] = [_]
    rw [h0]; rfl
  · show [_, _] = [_, _]
    rw [h0]
    exact congrArg (· :: _) h1.symm
  · show [_, _, _, _] = [_, _, _, _]
    rw [h0]
    have e1 : (UInt64.ofNat n >>> 8).toUInt8 = UInt8.ofNat (n / 256 ^ 1 % 256) := h1
    have e2 : (UInt64.ofNat n >>> 16).toUInt8 = UInt8.ofNat (n / 256 ^ 2 % 256) := h2
    have e3 : (UInt64.ofNat n >>> 24).toUInt8 = UInt8.ofNat (n / 256 ^ 3 % 256) := h3
    rw [e1, e2, e3]; rfl
set_option maxHeartbeats 1000000 in
theorem rnum_any (n size : Nat) (w : World) (hn : n ≤ 4294967295) (hs : size = 1 ∨ size = 2 ∨ size = 4) :
    Calls Try.prog 28 #[.int .i64 (n : Int), .int .i64 (size : Int)] w fun e w' => ∃ A m c, e = .returned (.slice A m c) ∧ Own w' w.heap.size (.slice A m c) (num n size) ∧ Below w.heap.size w w' := by
  have hmk := Try.prog_make size (by omega) w
  have hom := Own.made w size (by unfold maxLen; omega)
  have hbm : Below w.heap.size w (w.alloc (.cells (madeCells #[.int .u8 0] size) 5)) := (Below.refl _ _).alloc (Nat.le_refl _) _
  obtain ⟨w1, hw1⟩ : ∃ w1, w.alloc (.cells (madeCells #[.int .u8 0] size) 5) = w1 := ⟨_, rfl⟩
  rw [hw1] at hmk hom hbm
  have H := Lib.hid (And.intro hom (And.intro hbm hs))
  have hs4 : 1 ≤ size ∧ size ≤ 4 := by omega
  obtain ⟨hs1, hs4⟩ := hs4
  clear hw1 hom hbm hs
  go_enter Try.func28, Try.ntmps28
  go_wp2_with fail
  clear hmk
  go_loopw [0, 6] (fun nn ii wr => ∃ j : Nat, j ≤ size ∧ nn = .int .i64 ((n / 256 ^ j : Nat) : Int) ∧ ii = .int .i64 ((size : Int) - 1 - j) ∧ Own wr w.heap.size (.slice (some ⟨w.heap.size, 0, none⟩) size size) (numL n size j) ∧ Below w.heap.size w wr) (fun _ ii _ => (intOf ii + 1).toNat)
  case atStart => exact ⟨0, by omega, by simp, by simp, by rw [numL_zero]; exact H.out.1, H.out.2.1⟩
  case round =>
    obtain ⟨j, hj, rfl, rfl, hO, hB⟩ := hrel
    by_cases hlt : j < size
    · have hi0 : (0 : Int) ≤ (size : Int) - 1 - j := by omega
      have hid : decide ((0 : Int) ≤ (size : Int) - 1 - j) = true := decide_eq_true hi0
      have hi1 : (size : Int) - 1 - j < size := by omega
      obtain ⟨i, hi⟩ : ∃ i : Nat, (size : Int) - 1 - j = (i : Int) := ⟨size - 1 - j, by omega⟩
      have hin : i = size - 1 - j := by omega
      obtain ⟨N, hN⟩ : ∃ N, n / 256 ^ j = N := ⟨_, rfl⟩
      have hNl : N ≤ 4294967295 := by rw [← hN]; exact Nat.le_trans (Nat.div_le_self _ _) hn
      have hxi : ∃ x, (numL n size j)[i]? = some x := ⟨_, List.getElem?_eq_getElem (by rw [numL_len]; omega)⟩
      obtain ⟨x, hx⟩ := hxi
      have ci := hO.cell i x hx
      have fi := hO.frozen i
      unfold B at ci
      rw [hi] at hi0 hid hi1 ⊢
      rw [hN]
      have HR := Lib.hid (And.intro hO (And.intro hB (And.intro hN (And.intro hi hin))))
      clear hO hB hN hi hin hx
      go_wp2_with fail
      have hB8 : B (UInt8.ofNat (N % 256)) = .int .u8 ((N : Int) % 256) := by
        unfold B
        rw [UInt8.toNat_ofNat']
        congr 1
        omega
      have hset := HR.out.1.set_ i (UInt8.ofNat (N % 256)) (by omega)
      rw [hB8, ← HR.out.2.2.1, HR.out.2.2.2.2, numL_set _ _ _ hlt, HR.out.2.2.1, ← HR.out.2.2.2.2] at hset
      refine ⟨⟨j + 1, by omega, ?_, ?_, hset, ?_⟩, by simp [intOf]⟩
      · rw [Nat.pow_succ, ← Nat.div_div_eq_div_mul, HR.out.2.2.1]
        congr 1
      · congr 1
        have := HR.out.2.2.2.1
        omega
      · exact below_turn HR.out.2.1 ((Turn.refl [w.heap.size] wr).setCell (p := ⟨w.heap.size, i, none⟩) (.inl (by simp)) _) (by simp) HR.out.2.1.size
    · obtain rfl : j = size := by omega
      have hi0 : ¬ (0 : Int) ≤ (j : Int) - 1 - j := by omega
      have hid : decide ((0 : Int) ≤ (j : Int) - 1 - j) = false := decide_eq_false hi0
      have HR := Lib.hid (And.intro hO hB)
      clear hO hB
      go_wp2_with fail
      go_ret
      refine ⟨_, _, _, rfl, ?_, HR.out.2⟩
      rw [← numL_all n j (by omega) H.out.2.2]
      exact HR.out.1
end Go.Proofs.Ytmanpfenmamflaa
