/-
  Bytes of the field of 256 elements, as the reference reckons them.
-/
import Derived.Test.YtgkkafkdgmdihaaAes1
namespace Go.Proofs.Ytgkkafkdgmdihaa
open Go.RowKit

theorem tw_arm (a : UInt8) : (if geN a 128 then (a * 2) ^^^ 27 else a * 2) = tw a := by
  revert a; refine all8 ?_; decide +kernel
theorem rtimes_any (b f : UInt8) (w : World) : Calls Try.prog 22 #[B b, B f] w fun e w' => e = .returned (B (gm b f)) ∧ w = w' := by
  go_enter Try.func22, Try.ntmps22
  go_wp2
  go_loopw [0, 1, 5, 6] (fun bv fv ov _ wr => wr = w ∧ ∃ (k : Nat) (x y o : UInt8), k ≤ 8 ∧ y.toNat < 2 ^ k ∧ bv = B x ∧ fv = B y ∧ ov = B o ∧ gmF k x y o = gm b f) (fun _ fv _ _ _ => (intOf fv).toNat)
  case atStart => exact ⟨rfl, 8, b, f, 0, by omega, f.toNat_lt, rfl, rfl, rfl, rfl⟩
  case round =>
    obtain ⟨rfl, k, x, y, o, hk, hy, rfl, rfl, rfl, hg⟩ := hrel
    by_cases h0 : y = 0
    · subst h0
      have hz : o = gm b f := by rw [← hg, gmF_zero]
      clear hg hy
      have hp : gtN 0 0 = false := rfl
      go_wp2
      go_ret
      exact ⟨by rw [hz]; rfl, rfl⟩
    · have hp : gtN y 0 = true := by
        unfold gtN
        have : y.toNat ≠ 0 := fun h => h0 (by rw [← UInt8.toNat_inj]; exact h)
        simp; omega
      obtain ⟨k', rfl⟩ : ∃ k', k = k' + 1 := by
        cases k with
        | zero => exact absurd (by rw [← UInt8.toNat_inj]; simp only [Nat.pow_zero] at hy; show y.toNat = 0; omega) h0
        | succ k' => exact ⟨k', rfl⟩
      have hh := half_lt y k' hy
      unfold gmF at hg
      have hm : (y >>> 1).toNat < y.toNat := by
        have hy0 : y.toNat ≠ 0 := fun h => h0 (by rw [← UInt8.toNat_inj]; exact h)
        rw [UInt8.toNat_shiftRight]; simp [Nat.shiftRight_eq_div_pow]; omega
      clear hy h0
      by_cases h1 : y.toNat % 2 = 1
      · rw [if_pos h1] at hg
        have hb : isN (y &&& 1) 1 = true := by unfold isN; simp; omega
        clear h1
        have htw := tw_arm x
        rcases Bool.eq_false_or_eq_true (geN x 128) with hx | hx
        all_goals
          rw [hx] at htw
          simp only [if_true, if_false, Bool.false_eq_true] at htw
          have HT := Lib.hid htw
          clear htw
          go_wp2
          go_roundw
          case rel => exact ⟨trivial, k', _, _, _, by omega, hh, rfl, rfl, rfl, by rw [HT.out]; exact hg⟩
          case measure => simp only [intOf, B, Int.toNat_natCast]; exact hm
      · rw [if_neg h1] at hg
        have hb : isN (y &&& 1) 1 = false := by unfold isN; simp; omega
        clear h1
        have htw := tw_arm x
        rcases Bool.eq_false_or_eq_true (geN x 128) with hx | hx
        all_goals
          rw [hx] at htw
          simp only [if_true, if_false, Bool.false_eq_true] at htw
          have HT := Lib.hid htw
          clear htw
          go_wp2
          go_roundw
          case rel => exact ⟨trivial, k', _, _, _, by omega, hh, rfl, rfl, rfl, by rw [HT.out]; exact hg⟩
          case measure => simp only [intOf, B, Int.toNat_natCast]; exact hm
def invF : Nat → UInt8 → UInt8 → UInt8
  | 0, _, p => p
  | n + 1, a, p => invF n (gm a a) (gm p (gm a a))
theorem inverse_any (b : UInt8) (w : World) : Calls Try.prog 37 #[B b] w fun e w' => e = .returned (B (invF 7 b 1)) ∧ w = w' := by
  go_enter Try.func37, Try.ntmps37
  go_wp2
  go_loopw [0, 3, 4] (fun av pv iv wr => wr = w ∧ ∃ (k : Nat) (x p : UInt8), k ≤ 7 ∧ iv = .int .i64 (k : Nat) ∧ av = B x ∧ pv = B p ∧ invF (7 - k) x p = invF 7 b 1) (fun _ _ iv _ => 7 - (intOf iv).toNat)
  case atStart => exact ⟨rfl, 0, b, 1, by omega, rfl, rfl, rfl, rfl⟩
  case round =>
    obtain ⟨rfl, k, x, p, hk, rfl, rfl, rfl, hg⟩ := hrel
    have hk0 : (0 : Int) ≤ k := by omega
    rcases Nat.lt_or_ge k 7 with hlt | hge
    · have hi : (k : Int) < 7 := by omega
      have hs : 7 - k = (7 - (k + 1)) + 1 := by omega
      rw [hs] at hg
      unfold invF at hg
      have HG := Lib.hid hg
      clear hg hs
      go_wp2_with (go_at_call 22; refine (rtimes_any _ _ _).mono ?_; rintro e wx ⟨rfl, rfl⟩)
      go_roundw
      case rel => exact ⟨trivial, k + 1, _, _, by omega, by go_num, rfl, rfl, HG.out⟩
      case measure => simp [intOf]; omega
    · obtain rfl : k = 7 := by omega
      have hi : ¬ ((7 : Int) < 7) := by omega
      have hz : p = invF 7 b 1 := hg
      have HG := Lib.hid hz
      clear hg hz
      go_wp2
      go_ret
      exact ⟨by rw [← HG.out]; rfl, rfl⟩
def subF : Nat → UInt8 → UInt8 → UInt8
  | 0, _, s => s
  | n + 1, x, s => subF n ((x <<< 1) ||| (x >>> 7)) (s ^^^ x)
def sb (a : UInt8) : UInt8 := subF 5 (invF 7 a 1) 99
theorem sub_any (b : UInt8) (w : World) : Calls Try.prog 33 #[B b] w fun e w' => e = .returned (B (sb b)) ∧ w = w' := by
  go_enter Try.func33, Try.ntmps33
  go_wp2_with (go_at_call 37; refine (inverse_any _ _).mono ?_; rintro e wx ⟨rfl, rfl⟩)
  go_loopw [3, 4, 5] (fun xv sv iv wr => wr = w ∧ ∃ (k : Nat) (x s : UInt8), k ≤ 5 ∧ iv = .int .i64 (k : Nat) ∧ xv = B x ∧ sv = B s ∧ subF (5 - k) x s = sb b) (fun _ _ iv _ => 5 - (intOf iv).toNat)
  case atStart => exact ⟨rfl, 0, _, 99, by omega, rfl, rfl, rfl, rfl⟩
  case round =>
    obtain ⟨rfl, k, x, s, hk, rfl, rfl, rfl, hg⟩ := hrel
    have hk0 : (0 : Int) ≤ k := by omega
    rcases Nat.lt_or_ge k 5 with hlt | hge
    · have hi : (k : Int) < 5 := by omega
      have hs : 5 - k = (5 - (k + 1)) + 1 := by omega
      rw [hs] at hg
      unfold subF at hg
      have HG := Lib.hid hg
      clear hg hs
      go_wp2
      go_roundw
      case rel => exact ⟨trivial, k + 1, _, _, by omega, by go_num, rfl, rfl, HG.out⟩
      case measure => simp [intOf]; omega
    · obtain rfl : k = 5 := by omega
      have hi : ¬ ((5 : Int) < 5) := by omega
      have hz : s = sb b := hg
      have HG := Lib.hid hz
      clear hg hz
      go_wp2
      go_ret
      exact ⟨by rw [← HG.out]; rfl, rfl⟩
end Go.Proofs.Ytgkkafkdgmdihaa
