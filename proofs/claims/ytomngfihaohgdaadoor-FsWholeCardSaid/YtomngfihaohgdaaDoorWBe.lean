/-
  Bytes of a word of 64 bits, and back.
-/
import Derived.Test.YtomngfihaohgdaaDoorApp
import Derived.Test.YtomngfihaohgdaaDoorRot
namespace Go.Proofs.YtomngfihaohgdaaDoor
open Go.RowKit

theorem allB8 {P : UInt8 → Prop} (h : ∀ i : Fin 256, P (UInt8.ofNat i.val)) (a : UInt8) : P a := by
  have := h ⟨a.toNat, a.toNat_lt⟩
  simpa using this
theorem bw_56_56 (x : UInt8) : ((x.toUInt64 <<< 56) >>> 56).toUInt8 = x := by revert x; refine allB8 ?_; decide +kernel
theorem bw_56_48 (x : UInt8) : ((x.toUInt64 <<< 56) >>> 48).toUInt8 = 0 := by revert x; refine allB8 ?_; decide +kernel
theorem bw_56_40 (x : UInt8) : ((x.toUInt64 <<< 56) >>> 40).toUInt8 = 0 := by revert x; refine allB8 ?_; decide +kernel
theorem bw_56_32 (x : UInt8) : ((x.toUInt64 <<< 56) >>> 32).toUInt8 = 0 := by revert x; refine allB8 ?_; decide +kernel
theorem bw_56_24 (x : UInt8) : ((x.toUInt64 <<< 56) >>> 24).toUInt8 = 0 := by revert x; refine allB8 ?_; decide +kernel
theorem bw_56_16 (x : UInt8) : ((x.toUInt64 <<< 56) >>> 16).toUInt8 = 0 := by revert x; refine allB8 ?_; decide +kernel
theorem bw_56_8 (x : UInt8) : ((x.toUInt64 <<< 56) >>> 8).toUInt8 = 0 := by revert x; refine allB8 ?_; decide +kernel
theorem bw_56_0 (x : UInt8) : (x.toUInt64 <<< 56).toUInt8 = 0 := by revert x; refine allB8 ?_; decide +kernel
theorem bw_48_56 (x : UInt8) : ((x.toUInt64 <<< 48) >>> 56).toUInt8 = 0 := by revert x; refine allB8 ?_; decide +kernel
theorem bw_48_48 (x : UInt8) : ((x.toUInt64 <<< 48) >>> 48).toUInt8 = x := by revert x; refine allB8 ?_; decide +kernel
theorem bw_48_40 (x : UInt8) : ((x.toUInt64 <<< 48) >>> 40).toUInt8 = 0 := by revert x; refine allB8 ?_; decide +kernel
theorem bw_48_32 (x : UInt8) : ((x.toUInt64 <<< 48) >>> 32).toUInt8 = 0 := by revert x; refine allB8 ?_; decide +kernel
theorem bw_48_24 (x : UInt8) : ((x.toUInt64 <<< 48) >>> 24).toUInt8 = 0 := by revert x; refine allB8 ?_; decide +kernel
theorem bw_48_16 (x : UInt8) : ((x.toUInt64 <<< 48) >>> 16).toUInt8 = 0 := by revert x; refine allB8 ?_; decide +kernel
theorem bw_48_8 (x : UInt8) : ((x.toUInt64 <<< 48) >>> 8).toUInt8 = 0 := by revert x; refine allB8 ?_; decide +kernel
theorem bw_48_0 (x : UInt8) : (x.toUInt64 <<< 48).toUInt8 = 0 := by revert x; refine allB8 ?_; decide +kernel
theorem bw_40_56 (x : UInt8) : ((x.toUInt64 <<< 40) >>> 56).toUInt8 = 0 := by revert x; refine allB8 ?_; decide +kernel
theorem bw_40_48 (x : UInt8) : ((x.toUInt64 <<< 40) >>> 48).toUInt8 = 0 := by revert x; refine allB8 ?_; decide +kernel
theorem bw_40_40 (x : UInt8) : ((x.toUInt64 <<< 40) >>> 40).toUInt8 = x := by revert x; refine allB8 ?_; decide +kernel
theorem bw_40_32 (x : UInt8) : ((x.toUInt64 <<< 40) >>> 32).toUInt8 = 0 := by revert x; refine allB8 ?_; decide +kernel
theorem bw_40_24 (x : UInt8) : ((x.toUInt64 <<< 40) >>> 24).toUInt8 = 0 := by revert x; refine allB8 ?_; decide +kernel
theorem bw_40_16 (x : UInt8) : ((x.toUInt64 <<< 40) >>> 16).toUInt8 = 0 := by revert x; refine allB8 ?_; decide +kernel
theorem bw_40_8 (x : UInt8) : ((x.toUInt64 <<< 40) >>> 8).toUInt8 = 0 := by revert x; refine allB8 ?_; decide +kernel
theorem bw_40_0 (x : UInt8) : (x.toUInt64 <<< 40).toUInt8 = 0 := by revert x; refine allB8 ?_; decide +kernel
theorem bw_32_56 (x : UInt8) : ((x.toUInt64 <<< 32) >>> 56).toUInt8 = 0 := by revert x; refine allB8 ?_; decide +kernel
theorem bw_32_48 (x : UInt8) : ((x.toUInt64 <<< 32) >>> 48).toUInt8 = 0 := by revert x; refine allB8 ?_; decide +kernel
theorem bw_32_40 (x : UInt8) : ((x.toUInt64 <<< 32) >>> 40).toUInt8 = 0 := by revert x; refine allB8 ?_; decide +kernel
theorem bw_32_32 (x : UInt8) : ((x.toUInt64 <<< 32) >>> 32).toUInt8 = x := by revert x; refine allB8 ?_; decide +kernel
theorem bw_32_24 (x : UInt8) : ((x.toUInt64 <<< 32) >>> 24).toUInt8 = 0 := by revert x; refine allB8 ?_; decide +kernel
theorem bw_32_16 (x : UInt8) : ((x.toUInt64 <<< 32) >>> 16).toUInt8 = 0 := by revert x; refine allB8 ?_; decide +kernel
theorem bw_32_8 (x : UInt8) : ((x.toUInt64 <<< 32) >>> 8).toUInt8 = 0 := by revert x; refine allB8 ?_; decide +kernel
theorem bw_32_0 (x : UInt8) : (x.toUInt64 <<< 32).toUInt8 = 0 := by revert x; refine allB8 ?_; decide +kernel
theorem bw_24_56 (x : UInt8) : ((x.toUInt64 <<< 24) >>> 56).toUInt8 = 0 := by revert x; refine allB8 ?_; decide +kernel
theorem bw_24_48 (x : UInt8) : ((x.toUInt64 <<< 24) >>> 48).toUInt8 = 0 := by revert x; refine allB8 ?_; decide +kernel
theorem bw_24_40 (x : UInt8) : ((x.toUInt64 <<< 24) >>> 40).toUInt8 = 0 := by revert x; refine allB8 ?_; decide +kernel
theorem bw_24_32 (x : UInt8) : ((x.toUInt64 <<< 24) >>> 32).toUInt8 = 0 := by revert x; refine allB8 ?_; decide +kernel
theorem bw_24_24 (x : UInt8) : ((x.toUInt64 <<< 24) >>> 24).toUInt8 = x := by revert x; refine allB8 ?_; decide +kernel
theorem bw_24_16 (x : UInt8) : ((x.toUInt64 <<< 24) >>> 16).toUInt8 = 0 := by revert x; refine allB8 ?_; decide +kernel
theorem bw_24_8 (x : UInt8) : ((x.toUInt64 <<< 24) >>> 8).toUInt8 = 0 := by revert x; refine allB8 ?_; decide +kernel
theorem bw_24_0 (x : UInt8) : (x.toUInt64 <<< 24).toUInt8 = 0 := by revert x; refine allB8 ?_; decide +kernel
theorem bw_16_56 (x : UInt8) : ((x.toUInt64 <<< 16) >>> 56).toUInt8 = 0 := by revert x; refine allB8 ?_; decide +kernel
theorem bw_16_48 (x : UInt8) : ((x.toUInt64 <<< 16) >>> 48).toUInt8 = 0 := by revert x; refine allB8 ?_; decide +kernel
theorem bw_16_40 (x : UInt8) : ((x.toUInt64 <<< 16) >>> 40).toUInt8 = 0 := by revert x; refine allB8 ?_; decide +kernel
theorem bw_16_32 (x : UInt8) : ((x.toUInt64 <<< 16) >>> 32).toUInt8 = 0 := by revert x; refine allB8 ?_; decide +kernel
theorem bw_16_24 (x : UInt8) : ((x.toUInt64 <<< 16) >>> 24).toUInt8 = 0 := by revert x; refine allB8 ?_; decide +kernel
theorem bw_16_16 (x : UInt8) : ((x.toUInt64 <<< 16) >>> 16).toUInt8 = x := by revert x; refine allB8 ?_; decide +kernel
theorem bw_16_8 (x : UInt8) : ((x.toUInt64 <<< 16) >>> 8).toUInt8 = 0 := by revert x; refine allB8 ?_; decide +kernel
theorem bw_16_0 (x : UInt8) : (x.toUInt64 <<< 16).toUInt8 = 0 := by revert x; refine allB8 ?_; decide +kernel
theorem bw_8_56 (x : UInt8) : ((x.toUInt64 <<< 8) >>> 56).toUInt8 = 0 := by revert x; refine allB8 ?_; decide +kernel
theorem bw_8_48 (x : UInt8) : ((x.toUInt64 <<< 8) >>> 48).toUInt8 = 0 := by revert x; refine allB8 ?_; decide +kernel
theorem bw_8_40 (x : UInt8) : ((x.toUInt64 <<< 8) >>> 40).toUInt8 = 0 := by revert x; refine allB8 ?_; decide +kernel
theorem bw_8_32 (x : UInt8) : ((x.toUInt64 <<< 8) >>> 32).toUInt8 = 0 := by revert x; refine allB8 ?_; decide +kernel
theorem bw_8_24 (x : UInt8) : ((x.toUInt64 <<< 8) >>> 24).toUInt8 = 0 := by revert x; refine allB8 ?_; decide +kernel
theorem bw_8_16 (x : UInt8) : ((x.toUInt64 <<< 8) >>> 16).toUInt8 = 0 := by revert x; refine allB8 ?_; decide +kernel
theorem bw_8_8 (x : UInt8) : ((x.toUInt64 <<< 8) >>> 8).toUInt8 = x := by revert x; refine allB8 ?_; decide +kernel
theorem bw_8_0 (x : UInt8) : (x.toUInt64 <<< 8).toUInt8 = 0 := by revert x; refine allB8 ?_; decide +kernel
theorem bw_0_56 (x : UInt8) : (x.toUInt64 >>> 56).toUInt8 = 0 := by revert x; refine allB8 ?_; decide +kernel
theorem bw_0_48 (x : UInt8) : (x.toUInt64 >>> 48).toUInt8 = 0 := by revert x; refine allB8 ?_; decide +kernel
theorem bw_0_40 (x : UInt8) : (x.toUInt64 >>> 40).toUInt8 = 0 := by revert x; refine allB8 ?_; decide +kernel
theorem bw_0_32 (x : UInt8) : (x.toUInt64 >>> 32).toUInt8 = 0 := by revert x; refine allB8 ?_; decide +kernel
theorem bw_0_24 (x : UInt8) : (x.toUInt64 >>> 24).toUInt8 = 0 := by revert x; refine allB8 ?_; decide +kernel
theorem bw_0_16 (x : UInt8) : (x.toUInt64 >>> 16).toUInt8 = 0 := by revert x; refine allB8 ?_; decide +kernel
theorem bw_0_8 (x : UInt8) : (x.toUInt64 >>> 8).toUInt8 = 0 := by revert x; refine allB8 ?_; decide +kernel
theorem bw_0_0 (x : UInt8) : x.toUInt64.toUInt8 = x := by revert x; refine allB8 ?_; decide +kernel
theorem bytes_be64 (a b c d e f g h : UInt8) : bytes64 (be64 a b c d e f g h) = [a, b, c, d, e, f, g, h] := by
  unfold bytes64 be64
  simp only [UInt64.shiftRight_or, UInt64.toUInt8_or, bw_56_56, bw_56_48, bw_56_40, bw_56_32, bw_56_24, bw_56_16, bw_56_8, bw_56_0, bw_48_56, bw_48_48, bw_48_40, bw_48_32, bw_48_24, bw_48_16, bw_48_8, bw_48_0, bw_40_56, bw_40_48, bw_40_40, bw_40_32, bw_40_24, bw_40_16, bw_40_8, bw_40_0, bw_32_56, bw_32_48, bw_32_40, bw_32_32, bw_32_24, bw_32_16, bw_32_8, bw_32_0, bw_24_56, bw_24_48, bw_24_40, bw_24_32, bw_24_24, bw_24_16, bw_24_8, bw_24_0, bw_16_56, bw_16_48, bw_16_40, bw_16_32, bw_16_24, bw_16_16, bw_16_8, bw_16_0, bw_8_56, bw_8_48, bw_8_40, bw_8_32, bw_8_24, bw_8_16, bw_8_8, bw_8_0, bw_0_56, bw_0_48, bw_0_40, bw_0_32, bw_0_24, bw_0_16, bw_0_8, bw_0_0, UInt8.zero_or, UInt8.or_zero]
theorem bytes64_inj {x y : UInt64} (h : bytes64 x = bytes64 y) : x = y := by
  unfold bytes64 at h
  injection h with e0 h
  injection h with e1 h
  injection h with e2 h
  injection h with e3 h
  injection h with e4 h
  injection h with e5 h
  injection h with e6 h
  injection h with e7 h
  have f0 := congrArg UInt8.toNat e0
  have f1 := congrArg UInt8.toNat e1
  have f2 := congrArg UInt8.toNat e2
  have f3 := congrArg UInt8.toNat e3
  have f4 := congrArg UInt8.toNat e4
  have f5 := congrArg UInt8.toNat e5
  have f6 := congrArg UInt8.toNat e6
  have f7 := congrArg UInt8.toNat e7
  simp only [UInt64.toNat_toUInt8, UInt64.toNat_shiftRight, Nat.shiftRight_eq_div_pow, show (56 : UInt64).toNat % 64 = 56 from rfl, show (48 : UInt64).toNat % 64 = 48 from rfl, show (40 : UInt64).toNat % 64 = 40 from rfl, show (32 : UInt64).toNat % 64 = 32 from rfl, show (24 : UInt64).toNat % 64 = 24 from rfl, show (16 : UInt64).toNat % 64 = 16 from rfl, show (8 : UInt64).toNat % 64 = 8 from rfl] at f0 f1 f2 f3 f4 f5 f6 f7
  have hx := x.toNat_lt
  have hy := y.toNat_lt
  apply UInt64.toNat_inj.1
  omega
theorem word64_bytes64 (x : UInt64) (r : List UInt8) : word64 (bytes64 x ++ r) 0 = x := by
  apply bytes64_inj
  have h : word64 (bytes64 x ++ r) 0 = be64 (x >>> 56).toUInt8 (x >>> 48).toUInt8 (x >>> 40).toUInt8 (x >>> 32).toUInt8 (x >>> 24).toUInt8 (x >>> 16).toUInt8 (x >>> 8).toUInt8 x.toUInt8 := rfl
  rw [h, bytes_be64]; rfl
end Go.Proofs.YtomngfihaohgdaaDoor
