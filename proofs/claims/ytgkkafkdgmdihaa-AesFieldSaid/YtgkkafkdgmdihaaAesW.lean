/-
  Bytes and words of the field of GHASH, plainly.
-/
import Derived.Test.YtgkkafkdgmdihaaAesR3
namespace Go.Proofs.Ytgkkafkdgmdihaa
open Go.RowKit

theorem bw_56_56 (x : UInt8) : ((x.toUInt64 <<< 56) >>> 56).toUInt8 = x := by revert x; refine all8 ?_; decide +kernel
theorem bw_56_48 (x : UInt8) : ((x.toUInt64 <<< 56) >>> 48).toUInt8 = 0 := by revert x; refine all8 ?_; decide +kernel
theorem bw_56_40 (x : UInt8) : ((x.toUInt64 <<< 56) >>> 40).toUInt8 = 0 := by revert x; refine all8 ?_; decide +kernel
theorem bw_56_32 (x : UInt8) : ((x.toUInt64 <<< 56) >>> 32).toUInt8 = 0 := by revert x; refine all8 ?_; decide +kernel
theorem bw_56_24 (x : UInt8) : ((x.toUInt64 <<< 56) >>> 24).toUInt8 = 0 := by revert x; refine all8 ?_; decide +kernel
theorem bw_56_16 (x : UInt8) : ((x.toUInt64 <<< 56) >>> 16).toUInt8 = 0 := by revert x; refine all8 ?_; decide +kernel
theorem bw_56_8 (x : UInt8) : ((x.toUInt64 <<< 56) >>> 8).toUInt8 = 0 := by revert x; refine all8 ?_; decide +kernel
theorem bw_56_0 (x : UInt8) : (x.toUInt64 <<< 56).toUInt8 = 0 := by revert x; refine all8 ?_; decide +kernel
theorem bw_48_56 (x : UInt8) : ((x.toUInt64 <<< 48) >>> 56).toUInt8 = 0 := by revert x; refine all8 ?_; decide +kernel
theorem bw_48_48 (x : UInt8) : ((x.toUInt64 <<< 48) >>> 48).toUInt8 = x := by revert x; refine all8 ?_; decide +kernel
theorem bw_48_40 (x : UInt8) : ((x.toUInt64 <<< 48) >>> 40).toUInt8 = 0 := by revert x; refine all8 ?_; decide +kernel
theorem bw_48_32 (x : UInt8) : ((x.toUInt64 <<< 48) >>> 32).toUInt8 = 0 := by revert x; refine all8 ?_; decide +kernel
theorem bw_48_24 (x : UInt8) : ((x.toUInt64 <<< 48) >>> 24).toUInt8 = 0 := by revert x; refine all8 ?_; decide +kernel
theorem bw_48_16 (x : UInt8) : ((x.toUInt64 <<< 48) >>> 16).toUInt8 = 0 := by revert x; refine all8 ?_; decide +kernel
theorem bw_48_8 (x : UInt8) : ((x.toUInt64 <<< 48) >>> 8).toUInt8 = 0 := by revert x; refine all8 ?_; decide +kernel
theorem bw_48_0 (x : UInt8) : (x.toUInt64 <<< 48).toUInt8 = 0 := by revert x; refine all8 ?_; decide +kernel
theorem bw_40_56 (x : UInt8) : ((x.toUInt64 <<< 40) >>> 56).toUInt8 = 0 := by revert x; refine all8 ?_; decide +kernel
theorem bw_40_48 (x : UInt8) : ((x.toUInt64 <<< 40) >>> 48).toUInt8 = 0 := by revert x; refine all8 ?_; decide +kernel
theorem bw_40_40 (x : UInt8) : ((x.toUInt64 <<< 40) >>> 40).toUInt8 = x := by revert x; refine all8 ?_; decide +kernel
theorem bw_40_32 (x : UInt8) : ((x.toUInt64 <<< 40) >>> 32).toUInt8 = 0 := by revert x; refine all8 ?_; decide +kernel
theorem bw_40_24 (x : UInt8) : ((x.toUInt64 <<< 40) >>> 24).toUInt8 = 0 := by revert x; refine all8 ?_; decide +kernel
theorem bw_40_16 (x : UInt8) : ((x.toUInt64 <<< 40) >>> 16).toUInt8 = 0 := by revert x; refine all8 ?_; decide +kernel
theorem bw_40_8 (x : UInt8) : ((x.toUInt64 <<< 40) >>> 8).toUInt8 = 0 := by revert x; refine all8 ?_; decide +kernel
theorem bw_40_0 (x : UInt8) : (x.toUInt64 <<< 40).toUInt8 = 0 := by revert x; refine all8 ?_; decide +kernel
theorem bw_32_56 (x : UInt8) : ((x.toUInt64 <<< 32) >>> 56).toUInt8 = 0 := by revert x; refine all8 ?_; decide +kernel
theorem bw_32_48 (x : UInt8) : ((x.toUInt64 <<< 32) >>> 48).toUInt8 = 0 := by revert x; refine all8 ?_; decide +kernel
theorem bw_32_40 (x : UInt8) : ((x.toUInt64 <<< 32) >>> 40).toUInt8 = 0 := by revert x; refine all8 ?_; decide +kernel
theorem bw_32_32 (x : UInt8) : ((x.toUInt64 <<< 32) >>> 32).toUInt8 = x := by revert x; refine all8 ?_; decide +kernel
theorem bw_32_24 (x : UInt8) : ((x.toUInt64 <<< 32) >>> 24).toUInt8 = 0 := by revert x; refine all8 ?_; decide +kernel
theorem bw_32_16 (x : UInt8) : ((x.toUInt64 <<< 32) >>> 16).toUInt8 = 0 := by revert x; refine all8 ?_; decide +kernel
theorem bw_32_8 (x : UInt8) : ((x.toUInt64 <<< 32) >>> 8).toUInt8 = 0 := by revert x; refine all8 ?_; decide +kernel
theorem bw_32_0 (x : UInt8) : (x.toUInt64 <<< 32).toUInt8 = 0 := by revert x; refine all8 ?_; decide +kernel
theorem bw_24_56 (x : UInt8) : ((x.toUInt64 <<< 24) >>> 56).toUInt8 = 0 := by revert x; refine all8 ?_; decide +kernel
theorem bw_24_48 (x : UInt8) : ((x.toUInt64 <<< 24) >>> 48).toUInt8 = 0 := by revert x; refine all8 ?_; decide +kernel
theorem bw_24_40 (x : UInt8) : ((x.toUInt64 <<< 24) >>> 40).toUInt8 = 0 := by revert x; refine all8 ?_; decide +kernel
theorem bw_24_32 (x : UInt8) : ((x.toUInt64 <<< 24) >>> 32).toUInt8 = 0 := by revert x; refine all8 ?_; decide +kernel
theorem bw_24_24 (x : UInt8) : ((x.toUInt64 <<< 24) >>> 24).toUInt8 = x := by revert x; refine all8 ?_; decide +kernel
theorem bw_24_16 (x : UInt8) : ((x.toUInt64 <<< 24) >>> 16).toUInt8 = 0 := by revert x; refine all8 ?_; decide +kernel
theorem bw_24_8 (x : UInt8) : ((x.toUInt64 <<< 24) >>> 8).toUInt8 = 0 := by revert x; refine all8 ?_; decide +kernel
theorem bw_24_0 (x : UInt8) : (x.toUInt64 <<< 24).toUInt8 = 0 := by revert x; refine all8 ?_; decide +kernel
theorem bw_16_56 (x : UInt8) : ((x.toUInt64 <<< 16) >>> 56).toUInt8 = 0 := by revert x; refine all8 ?_; decide +kernel
theorem bw_16_48 (x : UInt8) : ((x.toUInt64 <<< 16) >>> 48).toUInt8 = 0 := by revert x; refine all8 ?_; decide +kernel
theorem bw_16_40 (x : UInt8) : ((x.toUInt64 <<< 16) >>> 40).toUInt8 = 0 := by revert x; refine all8 ?_; decide +kernel
theorem bw_16_32 (x : UInt8) : ((x.toUInt64 <<< 16) >>> 32).toUInt8 = 0 := by revert x; refine all8 ?_; decide +kernel
theorem bw_16_24 (x : UInt8) : ((x.toUInt64 <<< 16) >>> 24).toUInt8 = 0 := by revert x; refine all8 ?_; decide +kernel
theorem bw_16_16 (x : UInt8) : ((x.toUInt64 <<< 16) >>> 16).toUInt8 = x := by revert x; refine all8 ?_; decide +kernel
theorem bw_16_8 (x : UInt8) : ((x.toUInt64 <<< 16) >>> 8).toUInt8 = 0 := by revert x; refine all8 ?_; decide +kernel
theorem bw_16_0 (x : UInt8) : (x.toUInt64 <<< 16).toUInt8 = 0 := by revert x; refine all8 ?_; decide +kernel
theorem bw_8_56 (x : UInt8) : ((x.toUInt64 <<< 8) >>> 56).toUInt8 = 0 := by revert x; refine all8 ?_; decide +kernel
theorem bw_8_48 (x : UInt8) : ((x.toUInt64 <<< 8) >>> 48).toUInt8 = 0 := by revert x; refine all8 ?_; decide +kernel
theorem bw_8_40 (x : UInt8) : ((x.toUInt64 <<< 8) >>> 40).toUInt8 = 0 := by revert x; refine all8 ?_; decide +kernel
theorem bw_8_32 (x : UInt8) : ((x.toUInt64 <<< 8) >>> 32).toUInt8 = 0 := by revert x; refine all8 ?_; decide +kernel
theorem bw_8_24 (x : UInt8) : ((x.toUInt64 <<< 8) >>> 24).toUInt8 = 0 := by revert x; refine all8 ?_; decide +kernel
theorem bw_8_16 (x : UInt8) : ((x.toUInt64 <<< 8) >>> 16).toUInt8 = 0 := by revert x; refine all8 ?_; decide +kernel
theorem bw_8_8 (x : UInt8) : ((x.toUInt64 <<< 8) >>> 8).toUInt8 = x := by revert x; refine all8 ?_; decide +kernel
theorem bw_8_0 (x : UInt8) : (x.toUInt64 <<< 8).toUInt8 = 0 := by revert x; refine all8 ?_; decide +kernel
theorem bw_0_56 (x : UInt8) : (x.toUInt64 >>> 56).toUInt8 = 0 := by revert x; refine all8 ?_; decide +kernel
theorem bw_0_48 (x : UInt8) : (x.toUInt64 >>> 48).toUInt8 = 0 := by revert x; refine all8 ?_; decide +kernel
theorem bw_0_40 (x : UInt8) : (x.toUInt64 >>> 40).toUInt8 = 0 := by revert x; refine all8 ?_; decide +kernel
theorem bw_0_32 (x : UInt8) : (x.toUInt64 >>> 32).toUInt8 = 0 := by revert x; refine all8 ?_; decide +kernel
theorem bw_0_24 (x : UInt8) : (x.toUInt64 >>> 24).toUInt8 = 0 := by revert x; refine all8 ?_; decide +kernel
theorem bw_0_16 (x : UInt8) : (x.toUInt64 >>> 16).toUInt8 = 0 := by revert x; refine all8 ?_; decide +kernel
theorem bw_0_8 (x : UInt8) : (x.toUInt64 >>> 8).toUInt8 = 0 := by revert x; refine all8 ?_; decide +kernel
theorem bw_0_0 (x : UInt8) : x.toUInt64.toUInt8 = x := by revert x; refine all8 ?_; decide +kernel
theorem bytes_be64 (a b c d e f g h : UInt8) : bytes64 (be64 a b c d e f g h) = [a, b, c, d, e, f, g, h] := by
  unfold bytes64 be64
  simp only [UInt64.shiftRight_or, UInt64.toUInt8_or, bw_56_56, bw_56_48, bw_56_40, bw_56_32, bw_56_24, bw_56_16, bw_56_8, bw_56_0, bw_48_56, bw_48_48, bw_48_40, bw_48_32, bw_48_24, bw_48_16, bw_48_8, bw_48_0, bw_40_56, bw_40_48, bw_40_40, bw_40_32, bw_40_24, bw_40_16, bw_40_8, bw_40_0, bw_32_56, bw_32_48, bw_32_40, bw_32_32, bw_32_24, bw_32_16, bw_32_8, bw_32_0, bw_24_56, bw_24_48, bw_24_40, bw_24_32, bw_24_24, bw_24_16, bw_24_8, bw_24_0, bw_16_56, bw_16_48, bw_16_40, bw_16_32, bw_16_24, bw_16_16, bw_16_8, bw_16_0, bw_8_56, bw_8_48, bw_8_40, bw_8_32, bw_8_24, bw_8_16, bw_8_8, bw_8_0, bw_0_56, bw_0_48, bw_0_40, bw_0_32, bw_0_24, bw_0_16, bw_0_8, bw_0_0, UInt8.zero_or, UInt8.or_zero]
theorem wr_rd (x : List UInt8) (h : x.length = 16) : wr16 (rd16 x).1 (rd16 x).2 = x := by
  obtain ⟨x0, x1, x2, x3, x4, x5, x6, x7, x8, x9, x10, x11, x12, x13, x14, x15, rfl⟩ := list16 x h
  show bytes64 (be64 x0 x1 x2 x3 x4 x5 x6 x7) ++ bytes64 (be64 x8 x9 x10 x11 x12 x13 x14 x15) = _
  rw [bytes_be64, bytes_be64]; rfl
theorem xor_wr (a b c d : UInt64) : xorL (wr16 a b) (wr16 c d) = wr16 (a ^^^ c) (b ^^^ d) := by
  unfold xorL wr16 bytes64
  simp only [List.cons_append, List.nil_append, List.zipWith_cons_cons, List.zipWith_nil_left, UInt64.shiftRight_xor, UInt64.toUInt8_xor]
theorem wr_zero : wr16 0 0 = zs 16 := by decide
end Go.Proofs.Ytgkkafkdgmdihaa
