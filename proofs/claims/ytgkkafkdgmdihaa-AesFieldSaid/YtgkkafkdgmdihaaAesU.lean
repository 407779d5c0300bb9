/-
  The product in the field of GHASH: words and bytes say the same; it commutes.
-/
import Derived.Test.YtgkkafkdgmdihaaAesZ
namespace Go.Proofs.Ytgkkafkdgmdihaa
open Go.RowKit

theorem bit_in (n a b : Nat) (hb : b < 8) : (n / 2 ^ a % 256) / 2 ^ b % 2 = n / 2 ^ (a + b) % 2 := by
  have h1 : Nat.testBit (n / 2 ^ a % 2 ^ 8) b = Nat.testBit n (a + b) := by
    rw [Nat.testBit_mod_two_pow, Nat.testBit_div_two_pow]
    simp [hb, Nat.add_comm]
  rw [Nat.testBit_eq_decide_div_mod_eq, Nat.testBit_eq_decide_div_mod_eq] at h1
  have h2 := decide_eq_decide.1 h1
  show (n / 2 ^ a % 2 ^ 8) / 2 ^ b % 2 = _
  rcases Nat.mod_two_eq_zero_or_one ((n / 2 ^ a % 2 ^ 8) / 2 ^ b) with h | h <;> rcases Nat.mod_two_eq_zero_or_one (n / 2 ^ (a + b)) with k | k <;> omega
theorem wr_byte (h l : UInt64) (q : Nat) (hq : q < 16) : ((wr16 h l).getD q 0).toNat = (if 7 < q then l else h).toNat / 2 ^ (56 - 8 * (q % 8)) % 256 := by
  rcases q with _ | _ | _ | _ | _ | _ | _ | _ | _ | _ | _ | _ | _ | _ | _ | _ | q
  · exact bn_56 h
  · exact bn_48 h
  · exact bn_40 h
  · exact bn_32 h
  · exact bn_24 h
  · exact bn_16 h
  · exact bn_8 h
  · show h.toUInt8.toNat = h.toNat / 1 % 256; rw [bn_0, Nat.div_one]
  · exact bn_56 l
  · exact bn_48 l
  · exact bn_40 l
  · exact bn_32 l
  · exact bn_24 l
  · exact bn_16 l
  · exact bn_8 l
  · show l.toUInt8.toNat = l.toNat / 1 % 256; rw [bn_0, Nat.div_one]
  · omega
theorem bitE_nat (h l : UInt64) (i : Nat) : (bitE h l i).toNat = (if 63 < i then l else h).toNat / 2 ^ (63 - i % 64) % 2 := by
  unfold bitE
  rw [UInt64.toNat_and]
  show _ &&& 1 = _
  rw [Nat.and_one_is_mod]
  have hs : 63 - i % 64 < 64 := by omega
  split <;> rw [UInt64.toNat_shiftRight, UInt64.toNat_ofNat', Nat.mod_eq_of_lt (a := 63 - i % 64) (by omega), Nat.mod_eq_of_lt hs, Nat.shiftRight_eq_div_pow]
theorem bR_wr (h l : UInt64) (i : Nat) (hi : i < 128) : bR (wr16 h l) i = decide ((bitE h l i).toNat = 1) := by
  have hq : i / 8 < 16 := by omega
  have hb := wr_byte h l (i / 8) hq
  have hs : 7 - i % 8 < 8 := by omega
  have e : (((wr16 h l).getD (i / 8) 0) >>> UInt8.ofNat (7 - i % 8)).toNat % 2 = (bitE h l i).toNat := by
    rw [UInt8.toNat_shiftRight, UInt8.toNat_ofNat', Nat.mod_eq_of_lt (a := 7 - i % 8) (by omega), Nat.mod_eq_of_lt hs, Nat.shiftRight_eq_div_pow, hb, bitE_nat, bit_in _ _ _ hs]
    have e1 : 56 - 8 * (i / 8 % 8) + (7 - i % 8) = 63 - i % 64 := by omega
    rw [e1]
    by_cases h7 : 7 < i / 8
    · rw [if_pos h7, if_pos (by omega)]
    · rw [if_neg h7, if_neg (by omega)]
  unfold bR
  rw [← e]
  have h1 := odd_iff (((wr16 h l).getD (i / 8) 0) >>> UInt8.ofNat (7 - i % 8))
  cases hn : isN (((wr16 h l).getD (i / 8) 0) >>> UInt8.ofNat (7 - i % 8) &&& 1) 1
  · rw [hn] at h1
    have : ¬ (((wr16 h l).getD (i / 8) 0) >>> UInt8.ofNat (7 - i % 8)).toNat % 2 = 1 := fun hh => by have := h1.2 hh; cases this
    rw [decide_eq_false this]
  · rw [hn] at h1
    rw [decide_eq_true (h1.1 rfl)]
theorem bitE_or (h l : UInt64) (i : Nat) : bitE h l i = 0 ∨ bitE h l i = 1 := by
  have := bitE_nat h l i
  rcases Nat.mod_two_eq_zero_or_one ((if 63 < i then l else h).toNat / 2 ^ (63 - i % 64)) with k | k
  · exact .inl (by rw [← UInt64.toNat_inj, this, k]; rfl)
  · exact .inr (by rw [← UInt64.toNat_inj, this, k]; rfl)
theorem and_neg (y b : UInt64) (hb : b = 0 ∨ b = 1) : y &&& -b = if b = 1 then y else 0 := by
  rcases hb with rfl | rfl
  · simp
  · rw [if_pos rfl]
    have : (-1 : UInt64) = 18446744073709551615 := by decide
    rw [this]
    rw [← UInt64.toNat_inj, UInt64.toNat_and]
    show y.toNat &&& (2 ^ 64 - 1) = _
    rw [Nat.and_two_pow_sub_one_eq_mod, Nat.mod_eq_of_lt y.toNat_lt]
theorem rT_wr (xh xl yh yl : UInt64) (i : Nat) (hi : i ≤ 128) : rT (wr16 xh xl) (wr16 yh yl) i = (wr16 (eF xh xl yh yl i).zh (eF xh xl yh yl i).zl, wr16 (eF xh xl yh yl i).yh (eF xh xl yh yl i).yl) := by
  induction i with
  | zero => show (zs 16, _) = _; rw [← wr_zero]; rfl
  | succ i ih =>
    have ih := ih (by omega)
    show (if bR (wr16 xh xl) i = true then xorL (rT (wr16 xh xl) (wr16 yh yl) i).1 (rT (wr16 xh xl) (wr16 yh yl) i).2 else (rT (wr16 xh xl) (wr16 yh yl) i).1, rS (rT (wr16 xh xl) (wr16 yh yl) i).2) = _
    rw [ih]
    have he : eF xh xl yh yl (i + 1) = eStep xh xl i (eF xh xl yh yl i) := rfl
    rw [he]
    generalize eF xh xl yh yl i = s
    obtain ⟨zh, zl, vh, vl⟩ := s
    simp only [eStep]
    rw [rS_wr, xor_wr, bR_wr xh xl i (by omega)]
    have hb := bitE_or xh xl i
    rw [and_neg vh _ hb, and_neg vl _ hb]
    rcases hb with h | h
    · rw [h]; simp
    · rw [h]; simp
theorem gmul_rT (x y : List UInt8) (hx : x.length = 16) (hy : y.length = 16) : gmul x y = (rT x y 128).1 := by
  have h := rT_wr (rd16 x).1 (rd16 x).2 (rd16 y).1 (rd16 y).2 128 (by omega)
  rw [wr_rd x hx, wr_rd y hy] at h
  rw [h]; rfl
/-- Two words as one number. -/
def EW (h l : UInt64) : V := h.toBitVec ++ l.toBitVec
theorem EW_nat (h l : UInt64) : (EW h l).toNat = h.toNat * 18446744073709551616 + l.toNat := by
  unfold EW
  rw [BitVec.toNat_append, ← Nat.shiftLeft_add_eq_or_of_lt l.toBitVec.isLt, Nat.shiftLeft_eq]
  rfl
theorem EW_xor (a b c d : UInt64) : EW (a ^^^ c) (b ^^^ d) = EW a b ^^^ EW c d := by
  unfold EW
  rw [BitVec.xor_append]; rfl
theorem EW_zero : EW 0 0 = 0 := by decide
theorem EW_inj (a b c d : UInt64) (h : EW a b = EW c d) : a = c ∧ b = d := by
  have h1 := congrArg BitVec.toNat h
  rw [EW_nat, EW_nat] at h1
  have := b.toNat_lt; have := d.toNat_lt
  exact ⟨by rw [← UInt64.toNat_inj]; omega, by rw [← UInt64.toNat_inj]; omega⟩
theorem EW_sh (h l : UInt64) : EW (h >>> 1) (l >>> 1 ||| h <<< 63) = EW h l >>> 1 := by
  apply BitVec.eq_of_toNat_eq
  rw [EW_nat, BitVec.toNat_ushiftRight, EW_nat, lo_nat, hi_nat, Nat.shiftRight_eq_div_pow]
  omega
theorem EW_S1 (h l : UInt64) : EW (h >>> 1 ^^^ (16212958658533785600 &&& -(l &&& 1))) (l >>> 1 ||| h <<< 63) = S1 (EW h l) := by
  have hx := EW_xor (h >>> 1) (l >>> 1 ||| h <<< 63) (16212958658533785600 &&& -(l &&& 1)) 0
  rw [UInt64.xor_zero] at hx
  rw [hx, EW_sh]
  unfold S1
  have hb : (EW h l).getLsbD 0 = decide (l.toNat % 2 = 1) := by
    show (EW h l).toNat.testBit 0 = _
    rw [Nat.testBit_zero, EW_nat]
    congr 1
    simp; omega
  rw [hb]
  rcases one_or l with ⟨e, e2⟩ | ⟨e, e2⟩
  · rw [e, e2]
    have h1 : EW (16212958658533785600 &&& -0) 0 = 0 := by decide
    rw [h1]; simp
  · rw [e, e2]
    have h1 : EW (16212958658533785600 &&& -1) 0 = RV := by decide
    rw [h1]; rfl
theorem EW_bit (h l : UInt64) (i : Nat) (hi : i < 128) : (EW h l).getMsbD i = decide ((bitE h l i).toNat = 1) := by
  rw [BitVec.getMsbD_eq_getLsbD]
  show (decide (i < 128) && (EW h l).toNat.testBit (128 - 1 - i)) = _
  rw [decide_eq_true hi, Bool.true_and, Nat.testBit_eq_decide_div_mod_eq, EW_nat, bitE_nat]
  by_cases h6 : 63 < i
  · rw [if_pos h6]
    have e : 63 - i % 64 = 128 - 1 - i := by omega
    rw [e]
    obtain ⟨k, hk⟩ : ∃ k, k = 128 - 1 - i := ⟨_, rfl⟩
    rw [← hk]
    have hk64 : k < 64 := by omega
    have h1 : Nat.testBit (h.toNat * 2 ^ 64 + l.toNat) k = Nat.testBit l.toNat k := by
      rw [Nat.mul_comm, Nat.testBit_two_pow_mul_add _ l.toNat_lt, if_pos hk64]
    rw [Nat.testBit_eq_decide_div_mod_eq, Nat.testBit_eq_decide_div_mod_eq] at h1
    exact h1
  · rw [if_neg h6]
    have e : 63 - i % 64 = 128 - 1 - i - 64 := by omega
    rw [e]
    obtain ⟨k, hk⟩ : ∃ k, k = 128 - 1 - i := ⟨_, rfl⟩
    rw [← hk]
    have hk64 : ¬ k < 64 := by omega
    have h1 : Nat.testBit (h.toNat * 2 ^ 64 + l.toNat) k = Nat.testBit h.toNat (k - 64) := by
      rw [Nat.mul_comm, Nat.testBit_two_pow_mul_add _ l.toNat_lt, if_neg hk64]
    rw [Nat.testBit_eq_decide_div_mod_eq, Nat.testBit_eq_decide_div_mod_eq] at h1
    exact h1
theorem eF_EW (xh xl yh yl : UInt64) (i : Nat) (hi : i ≤ 128) :
    EW (eF xh xl yh yl i).zh (eF xh xl yh yl i).zl = xs (fun k => if (EW xh xl).getMsbD k then SI k (EW yh yl) else 0) i ∧ EW (eF xh xl yh yl i).yh (eF xh xl yh yl i).yl = SI i (EW yh yl) := by
  induction i with
  | zero => exact ⟨EW_zero, rfl⟩
  | succ i ih =>
    obtain ⟨ih1, ih2⟩ := ih (by omega)
    have he : eF xh xl yh yl (i + 1) = eStep xh xl i (eF xh xl yh yl i) := rfl
    rw [he]
    generalize eF xh xl yh yl i = s at *
    obtain ⟨zh, zl, vh, vl⟩ := s
    simp only [eStep]
    simp only at ih1 ih2
    refine ⟨?_, ?_⟩
    · have hb := bitE_or xh xl i
      rw [and_neg vh _ hb, and_neg vl _ hb]
      show _ = xs _ i ^^^ (if (EW xh xl).getMsbD i then SI i (EW yh yl) else 0)
      rw [← ih1, ← ih2, EW_bit xh xl i (by omega), EW_xor]
      rcases hb with h | h
      · rw [h]; simp [EW_zero]
      · rw [h]; simp
    · rw [EW_S1, ih2]; rfl
theorem eF_mul (xh xl yh yl : UInt64) : EW (eF xh xl yh yl 128).zh (eF xh xl yh yl 128).zl = mulV (EW xh xl) (EW yh yl) := (eF_EW xh xl yh yl 128 (by omega)).1
theorem gmul_comm (x y : List UInt8) : gmul x y = gmul y x := by
  unfold gmul
  have h1 := eF_mul (rd16 x).1 (rd16 x).2 (rd16 y).1 (rd16 y).2
  rw [mulV_comm, ← eF_mul] at h1
  obtain ⟨a, b⟩ := EW_inj _ _ _ _ h1
  rw [a, b]
end Go.Proofs.Ytgkkafkdgmdihaa
