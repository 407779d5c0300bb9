/-
  One step of the field of GHASH, on bytes and on words.
-/
import Derived.Test.YtgkkafkdgmdihaaAesW
namespace Go.Proofs.Ytgkkafkdgmdihaa
open Go.RowKit

def pB (prev cur : UInt8) : UInt8 := if isN (prev &&& 1) 1 = true then (cur >>> 1) + 128 else cur >>> 1
theorem odd_iff (x : UInt8) : isN (x &&& 1) 1 = true ↔ x.toNat % 2 = 1 := by
  unfold isN
  simp
  omega
theorem pB_nat (prev cur : UInt8) : (pB prev cur).toNat = cur.toNat / 2 + 128 * (prev.toNat % 2) := by
  unfold pB
  have h := cur.toNat_lt
  have e : (cur >>> 1).toNat = cur.toNat / 2 := by rw [UInt8.toNat_shiftRight]; simp [Nat.shiftRight_eq_div_pow]
  split
  · rename_i hb
    rw [odd_iff] at hb
    rw [UInt8.toNat_add, e, hb]
    show (cur.toNat / 2 + 128) % 256 = _
    omega
  · rename_i hb
    rw [odd_iff] at hb
    rw [e]; omega
theorem by_nat (x : UInt64) (s : Nat) (h : s < 64) : (x >>> UInt64.ofNat s).toUInt8.toNat = x.toNat / 2 ^ s % 256 := by
  rw [UInt64.toNat_toUInt8, UInt64.toNat_shiftRight, UInt64.toNat_ofNat', Nat.mod_eq_of_lt (a := s) (by omega), Nat.mod_eq_of_lt h, Nat.shiftRight_eq_div_pow]
theorem lo_nat (h l : UInt64) : (l >>> 1 ||| h <<< 63).toNat = l.toNat / 2 + (h.toNat % 2) * 9223372036854775808 := by
  have hl := l.toNat_lt
  have hh := h.toNat_lt
  rw [UInt64.toNat_or, UInt64.toNat_shiftRight, UInt64.toNat_shiftLeft]
  show l.toNat >>> 1 ||| (h.toNat <<< 63) % 2 ^ 64 = _
  rw [Nat.shiftRight_eq_div_pow, Nat.shiftLeft_eq]
  have e1 : h.toNat * 2 ^ 63 % 2 ^ 64 = (h.toNat % 2) <<< 63 := by rw [Nat.shiftLeft_eq]; omega
  rw [e1, Nat.or_comm, ← Nat.shiftLeft_add_eq_or_of_lt (by omega), Nat.shiftLeft_eq]
  omega
theorem hi_nat (h : UInt64) : (h >>> 1).toNat = h.toNat / 2 := by
  rw [UInt64.toNat_shiftRight]; show h.toNat >>> 1 = _; rw [Nat.shiftRight_eq_div_pow]
theorem bn_56 (x : UInt64) : (x >>> 56).toUInt8.toNat = x.toNat / 72057594037927936 % 256 := by have := by_nat x 56 (by omega); exact this
theorem bn_48 (x : UInt64) : (x >>> 48).toUInt8.toNat = x.toNat / 281474976710656 % 256 := by have := by_nat x 48 (by omega); exact this
theorem bn_40 (x : UInt64) : (x >>> 40).toUInt8.toNat = x.toNat / 1099511627776 % 256 := by have := by_nat x 40 (by omega); exact this
theorem bn_32 (x : UInt64) : (x >>> 32).toUInt8.toNat = x.toNat / 4294967296 % 256 := by have := by_nat x 32 (by omega); exact this
theorem bn_24 (x : UInt64) : (x >>> 24).toUInt8.toNat = x.toNat / 16777216 % 256 := by have := by_nat x 24 (by omega); exact this
theorem bn_16 (x : UInt64) : (x >>> 16).toUInt8.toNat = x.toNat / 65536 % 256 := by have := by_nat x 16 (by omega); exact this
theorem bn_8 (x : UInt64) : (x >>> 8).toUInt8.toNat = x.toNat / 256 % 256 := by have := by_nat x 8 (by omega); exact this
theorem bn_0 (x : UInt64) : x.toUInt8.toNat = x.toNat % 256 := by rw [UInt64.toNat_toUInt8]
theorem shL_list (h l : UInt64) : shL (wr16 h l) = [(h >>> 56).toUInt8 >>> 1, pB (h >>> 56).toUInt8 (h >>> 48).toUInt8, pB (h >>> 48).toUInt8 (h >>> 40).toUInt8, pB (h >>> 40).toUInt8 (h >>> 32).toUInt8, pB (h >>> 32).toUInt8 (h >>> 24).toUInt8, pB (h >>> 24).toUInt8 (h >>> 16).toUInt8, pB (h >>> 16).toUInt8 (h >>> 8).toUInt8, pB (h >>> 8).toUInt8 h.toUInt8, pB h.toUInt8 (l >>> 56).toUInt8, pB (l >>> 56).toUInt8 (l >>> 48).toUInt8, pB (l >>> 48).toUInt8 (l >>> 40).toUInt8, pB (l >>> 40).toUInt8 (l >>> 32).toUInt8, pB (l >>> 32).toUInt8 (l >>> 24).toUInt8, pB (l >>> 24).toUInt8 (l >>> 16).toUInt8, pB (l >>> 16).toUInt8 (l >>> 8).toUInt8, pB (l >>> 8).toUInt8 l.toUInt8] := by
  simp only [shL, List.range, List.range.loop, List.map_cons, List.map_nil, shB]
  simp [wr16, bytes64, pB]
theorem sh_wr (h l : UInt64) : shL (wr16 h l) = wr16 (h >>> 1) (l >>> 1 ||| h <<< 63) := by
  rw [shL_list]
  have hh := h.toNat_lt
  have hl := l.toNat_lt
  have e0 : (h >>> 56).toUInt8 >>> 1 = ((h >>> 1) >>> 56).toUInt8 := by
    rw [← UInt8.toNat_inj, UInt8.toNat_shiftRight]
    show (h >>> 56).toUInt8.toNat >>> 1 = _
    rw [Nat.shiftRight_eq_div_pow, bn_56, bn_56, hi_nat]; omega
  have e1 : pB (h >>> 56).toUInt8 (h >>> 48).toUInt8 = ((h >>> 1) >>> 48).toUInt8 := by rw [← UInt8.toNat_inj, pB_nat, bn_48, bn_56, bn_48, hi_nat]; omega
  have e2 : pB (h >>> 48).toUInt8 (h >>> 40).toUInt8 = ((h >>> 1) >>> 40).toUInt8 := by rw [← UInt8.toNat_inj, pB_nat, bn_40, bn_48, bn_40, hi_nat]; omega
  have e3 : pB (h >>> 40).toUInt8 (h >>> 32).toUInt8 = ((h >>> 1) >>> 32).toUInt8 := by rw [← UInt8.toNat_inj, pB_nat, bn_32, bn_40, bn_32, hi_nat]; omega
  have e4 : pB (h >>> 32).toUInt8 (h >>> 24).toUInt8 = ((h >>> 1) >>> 24).toUInt8 := by rw [← UInt8.toNat_inj, pB_nat, bn_24, bn_32, bn_24, hi_nat]; omega
  have e5 : pB (h >>> 24).toUInt8 (h >>> 16).toUInt8 = ((h >>> 1) >>> 16).toUInt8 := by rw [← UInt8.toNat_inj, pB_nat, bn_16, bn_24, bn_16, hi_nat]; omega
  have e6 : pB (h >>> 16).toUInt8 (h >>> 8).toUInt8 = ((h >>> 1) >>> 8).toUInt8 := by rw [← UInt8.toNat_inj, pB_nat, bn_8, bn_16, bn_8, hi_nat]; omega
  have e7 : pB (h >>> 8).toUInt8 h.toUInt8 = (h >>> 1).toUInt8 := by rw [← UInt8.toNat_inj, pB_nat, bn_0, bn_8, bn_0, hi_nat]; omega
  have e8 : pB h.toUInt8 (l >>> 56).toUInt8 = ((l >>> 1 ||| h <<< 63) >>> 56).toUInt8 := by rw [← UInt8.toNat_inj, pB_nat, bn_56, bn_0, bn_56, lo_nat]; omega
  have e9 : pB (l >>> 56).toUInt8 (l >>> 48).toUInt8 = ((l >>> 1 ||| h <<< 63) >>> 48).toUInt8 := by rw [← UInt8.toNat_inj, pB_nat, bn_48, bn_56, bn_48, lo_nat]; omega
  have e10 : pB (l >>> 48).toUInt8 (l >>> 40).toUInt8 = ((l >>> 1 ||| h <<< 63) >>> 40).toUInt8 := by rw [← UInt8.toNat_inj, pB_nat, bn_40, bn_48, bn_40, lo_nat]; omega
  have e11 : pB (l >>> 40).toUInt8 (l >>> 32).toUInt8 = ((l >>> 1 ||| h <<< 63) >>> 32).toUInt8 := by rw [← UInt8.toNat_inj, pB_nat, bn_32, bn_40, bn_32, lo_nat]; omega
  have e12 : pB (l >>> 32).toUInt8 (l >>> 24).toUInt8 = ((l >>> 1 ||| h <<< 63) >>> 24).toUInt8 := by rw [← UInt8.toNat_inj, pB_nat, bn_24, bn_32, bn_24, lo_nat]; omega
  have e13 : pB (l >>> 24).toUInt8 (l >>> 16).toUInt8 = ((l >>> 1 ||| h <<< 63) >>> 16).toUInt8 := by rw [← UInt8.toNat_inj, pB_nat, bn_16, bn_24, bn_16, lo_nat]; omega
  have e14 : pB (l >>> 16).toUInt8 (l >>> 8).toUInt8 = ((l >>> 1 ||| h <<< 63) >>> 8).toUInt8 := by rw [← UInt8.toNat_inj, pB_nat, bn_8, bn_16, bn_8, lo_nat]; omega
  have e15 : pB (l >>> 8).toUInt8 l.toUInt8 = (l >>> 1 ||| h <<< 63).toUInt8 := by rw [← UInt8.toNat_inj, pB_nat, bn_0, bn_8, bn_0, lo_nat]; omega
  rw [e0, e1, e2, e3, e4, e5, e6, e7, e8, e9, e10, e11, e12, e13, e14, e15]
  rfl
theorem one_or (l : UInt64) : (l &&& 1 = 0 ∧ l.toNat % 2 = 0) ∨ (l &&& 1 = 1 ∧ l.toNat % 2 = 1) := by
  have : (l &&& 1).toNat = l.toNat % 2 := by rw [UInt64.toNat_and]; show l.toNat &&& 1 = _; rw [Nat.and_one_is_mod]
  rcases Nat.mod_two_eq_zero_or_one l.toNat with h | h
  · exact .inl ⟨by rw [← UInt64.toNat_inj, this, h]; rfl, h⟩
  · exact .inr ⟨by rw [← UInt64.toNat_inj, this, h]; rfl, h⟩
theorem rS_wr (h l : UInt64) : rS (wr16 h l) = wr16 (h >>> 1 ^^^ (16212958658533785600 &&& -(l &&& 1))) (l >>> 1 ||| h <<< 63) := by
  have hb : (wr16 h l).getD 15 0 = l.toUInt8 := rfl
  have hs0 : shB (wr16 h l) 0 = (h >>> 1 >>> 56).toUInt8 := by
    have h1 := shL_at (wr16 h l) 0 (by omega)
    rw [sh_wr] at h1
    exact (Option.some.inj h1).symm
  unfold rS
  rw [hb, sh_wr]
  rcases one_or l with ⟨e, e2⟩ | ⟨e, e2⟩
  · have hf : ¬ isN (l.toUInt8 &&& 1) 1 = true := by rw [odd_iff, bn_0]; omega
    rw [if_neg hf, e]
    simp
  · have hf : isN (l.toUInt8 &&& 1) 1 = true := by rw [odd_iff, bn_0]; omega
    rw [if_pos hf, e, hs0]
    have h1 : (16212958658533785600 : UInt64) &&& -1 = 16212958658533785600 := by decide
    rw [h1]
    have hx := xor_wr (h >>> 1) (l >>> 1 ||| h <<< 63) 16212958658533785600 0
    have hz : wr16 16212958658533785600 0 = [225, 0, 0, 0, 0, 0, 0, 0, 0, 0, 0, 0, 0, 0, 0, 0] := by decide
    rw [hz, UInt64.xor_zero] at hx
    rw [← hx]
    unfold xorL wr16 bytes64
    simp
end Go.Proofs.Ytgkkafkdgmdihaa
