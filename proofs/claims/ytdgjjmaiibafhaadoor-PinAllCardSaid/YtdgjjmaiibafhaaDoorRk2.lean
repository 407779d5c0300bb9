/-
  Numbers of 64 bits out of two of 32 bits; their bytes.
-/
import Derived.Test.YtdgjjmaiibafhaaDoorRk
namespace Go.Proofs.YtdgjjmaiibafhaaDoor
open Go.RowKit

theorem u32up (a : UInt8) (n : Nat) (h : n ≤ 24) : (a.toUInt32 <<< UInt32.ofNat n).toUInt64 = a.toUInt64 <<< UInt64.ofNat n := by
  apply UInt64.toNat_inj.1
  have ha := a.toNat_lt
  rw [UInt32.toNat_toUInt64, UInt32.toNat_shiftLeft, UInt64.toNat_shiftLeft, UInt8.toNat_toUInt32, UInt8.toNat_toUInt64, UInt32.toNat_ofNat', UInt64.toNat_ofNat', Nat.shiftLeft_eq, Nat.shiftLeft_eq]
  rw [Nat.mod_eq_of_lt (a := n) (by omega), Nat.mod_eq_of_lt (a := n) (by omega), Nat.mod_eq_of_lt (a := n) (by omega), Nat.mod_eq_of_lt (a := n) (by omega)]
  have : 2 ^ n ≤ 2 ^ 24 := Nat.pow_le_pow_right (by omega) h
  have h2 : a.toNat * 2 ^ n ≤ 255 * 2 ^ 24 := Nat.mul_le_mul (by omega) this
  rw [Nat.mod_eq_of_lt (by omega), Nat.mod_eq_of_lt (by omega)]
theorem be64_two (a b c d e f g h : UInt8) : be64 a b c d e f g h = (be32 a b c d).toUInt64 <<< 32 ||| (be32 e f g h).toUInt64 := by
  unfold be64 be32
  have s24 := fun a => u32up a 24 (by decide)
  have s16 := fun a => u32up a 16 (by decide)
  have s8 := fun a => u32up a 8 (by decide)
  simp only [UInt32.toUInt64_or]
  rw [show (24 : UInt32) = UInt32.ofNat 24 from rfl, show (16 : UInt32) = UInt32.ofNat 16 from rfl, show (8 : UInt32) = UInt32.ofNat 8 from rfl]
  simp only [s24, s16, s8, UInt8.toUInt64_toUInt32, UInt64.or_assoc]
  simp only [UInt64.shiftLeft_or, UInt64.or_assoc]
  rw [show (56 : UInt64) = UInt64.ofNat 24 + 32 from rfl, show (48 : UInt64) = UInt64.ofNat 16 + 32 from rfl, show (40 : UInt64) = UInt64.ofNat 8 + 32 from rfl]
  rw [UInt64.shiftLeft_add (by decide) (by decide) (by decide), UInt64.shiftLeft_add (by decide) (by decide) (by decide), UInt64.shiftLeft_add (by decide) (by decide) (by decide)]
  rfl
theorem shr_two (x : UInt64) (n : Nat) (h : n < 32) : ((x >>> 32).toUInt32 >>> UInt32.ofNat n).toUInt8 = (x >>> UInt64.ofNat (n + 32)).toUInt8 := by
  apply UInt8.toNat_inj.1
  rw [UInt32.toNat_toUInt8, UInt64.toNat_toUInt8, UInt32.toNat_shiftRight, UInt64.toNat_shiftRight, UInt64.toNat_toUInt32, UInt64.toNat_shiftRight, UInt32.toNat_ofNat', UInt64.toNat_ofNat', Nat.shiftRight_eq_div_pow, Nat.shiftRight_eq_div_pow, Nat.shiftRight_eq_div_pow]
  rw [Nat.mod_eq_of_lt (a := n) (by omega), Nat.mod_eq_of_lt (a := n) (by omega), Nat.mod_eq_of_lt (a := n + 32) (by omega), Nat.mod_eq_of_lt (a := n + 32) (by omega)]
  have h1 : (32 : UInt64).toNat % 64 = 32 := rfl
  rw [h1]
  have h2 := x.toNat_lt
  rw [Nat.mod_eq_of_lt (a := x.toNat / 2 ^ 32) (by omega), Nat.div_div_eq_div_mul, ← Nat.pow_add, Nat.add_comm 32 n]
theorem low_two (x : UInt64) (n : Nat) (h : n ≤ 24) : (x.toUInt32 >>> UInt32.ofNat n).toUInt8 = (x >>> UInt64.ofNat n).toUInt8 := by
  apply UInt8.toNat_inj.1
  rw [UInt32.toNat_toUInt8, UInt64.toNat_toUInt8, UInt32.toNat_shiftRight, UInt64.toNat_shiftRight, UInt64.toNat_toUInt32, UInt32.toNat_ofNat', UInt64.toNat_ofNat', Nat.shiftRight_eq_div_pow, Nat.shiftRight_eq_div_pow]
  rw [Nat.mod_eq_of_lt (a := n) (by omega), Nat.mod_eq_of_lt (a := n) (by omega), Nat.mod_eq_of_lt (a := n) (by omega), Nat.mod_eq_of_lt (a := n) (by omega)]
  have e : 2 ^ 32 = 2 ^ n * (2 ^ (24 - n) * 2 ^ 8) := by rw [← Nat.pow_add, ← Nat.pow_add]; congr 1; omega
  rw [e, Nat.mod_mul_right_div_self, Nat.mod_mul_left_mod]
theorem bytes_two (x : UInt64) : bytes32 (x >>> 32).toUInt32 ++ bytes32 x.toUInt32 = bytes64 x := by
  have a1 := shr_two x 24 (by decide)
  have a2 := shr_two x 16 (by decide)
  have a3 := shr_two x 8 (by decide)
  have a4 : (x >>> 32).toUInt32.toUInt8 = (x >>> 32).toUInt8 := by simp
  have b1 := low_two x 24 (by decide)
  have b2 := low_two x 16 (by decide)
  have b3 := low_two x 8 (by decide)
  have b4 : x.toUInt32.toUInt8 = x.toUInt8 := by simp
  unfold bytes32 bytes64
  simp only [List.cons_append, List.nil_append]
  rw [show (24 : UInt32) = UInt32.ofNat 24 from rfl, show (16 : UInt32) = UInt32.ofNat 16 from rfl, show (8 : UInt32) = UInt32.ofNat 8 from rfl, a1, a2, a3, a4, b1, b2, b3, b4]
  rfl
theorem word64_two (l : List UInt8) (k : Nat) : word64 l k = (word32 l k).toUInt64 <<< 32 ||| (word32 l (k + 4)).toUInt64 := be64_two _ _ _ _ _ _ _ _
/-- word, wherever the heap is as it was. -/
theorem word_at (b off n c : Nat) (l : List UInt8) (w0 w : World) (h : At w0 b off l) (hw : w.heap = w0.heap) (hn : n = l.length) (h4 : 4 ≤ n) :
    Calls Tryd.prog 68 #[.slice (some ⟨b, off, none⟩) n c] w fun e w' => e = .returned (U32 (word32 l 0)) ∧ ∃ k, w' = w.drewN k :=
  word_any b off n c l w (h.keep (by rw [hw]; exact Nat.le_refl _) (by rw [hw])) hn h4
end Go.Proofs.YtdgjjmaiibafhaaDoor
