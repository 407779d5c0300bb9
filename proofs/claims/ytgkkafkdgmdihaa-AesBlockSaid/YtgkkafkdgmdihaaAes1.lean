/-
  Bytes of the field of 256 elements: twice, turn, times.
-/
import Derived.Test.YtgkkafkdgmdihaaReg
import Derived.Test.YtgkkafkdgmdihaaWordsB
namespace Go.Proofs.Ytgkkafkdgmdihaa
open Go.RowKit

/-- By x. -/
def tw (b : UInt8) : UInt8 := (b <<< 1) ^^^ ((b >>> 7) * 27)
theorem twice_any (b : UInt8) (w : World) : Calls Try.prog 20 #[B b] w fun e w' => e = .returned (B (tw b)) ∧ w = w' := by
  go_enter Try.func20, Try.ntmps20
  go_wp2
  go_ret
  exact ⟨rfl, rfl⟩
def rot (b : UInt8) (n : Nat) : UInt8 := (b <<< UInt8.ofNat n) ||| (b >>> UInt8.ofNat (8 - n))
theorem turn_any (b : UInt8) (n : Nat) (hn : n = 1 ∨ n = 2 ∨ n = 3 ∨ n = 4) (w : World) : Calls Try.prog 32 #[B b, .int .u64 n] w fun e w' => e = .returned (B (rot b n)) ∧ w = w' := by
  rcases hn with rfl | rfl | rfl | rfl
  all_goals
    go_enter Try.func32, Try.ntmps32
    go_wp2
    go_ret
    exact ⟨rfl, rfl⟩
/-- Products, by the bits of the second. -/
def gmF : Nat → UInt8 → UInt8 → UInt8 → UInt8
  | 0, _, _, o => o
  | n + 1, a, f, o => gmF n (tw a) (f >>> 1) (if f.toNat % 2 = 1 then o ^^^ a else o)
def gm (a f : UInt8) : UInt8 := gmF 8 a f 0
theorem half_lt (f : UInt8) (k : Nat) (h : f.toNat < 2 ^ (k + 1)) : (f >>> 1).toNat < 2 ^ k := by
  rw [UInt8.toNat_shiftRight]
  simp [Nat.shiftRight_eq_div_pow]
  rw [Nat.pow_succ] at h
  omega
theorem gmF_zero (k : Nat) : ∀ (a o : UInt8), gmF k a 0 o = o := by
  induction k with
  | zero => intro a o; rfl
  | succ k ih => intro a o; unfold gmF; simp; exact ih _ _
theorem times_any (b f : UInt8) (w : World) : Calls Try.prog 34 #[B b, B f] w fun e w' => e = .returned (B (gm b f)) ∧ w = w' := by
  go_enter Try.func34, Try.ntmps34
  go_wp2
  go_loopw [0, 1, 5] (fun bv fv ov wr => wr = w ∧ ∃ (k : Nat) (x y o : UInt8), k ≤ 8 ∧ y.toNat < 2 ^ k ∧ bv = B x ∧ fv = B y ∧ ov = B o ∧ gmF k x y o = gm b f) (fun _ fv _ _ => (intOf fv).toNat)
  case atStart => exact ⟨rfl, 8, b, f, 0, by omega, f.toNat_lt, rfl, rfl, rfl, rfl⟩
  case round =>
    obtain ⟨rfl, k, x, y, o, hk, hy, rfl, rfl, rfl, hg⟩ := hrel
    by_cases h0 : y = 0
    · subst h0
      have hz : o = gm b f := by rw [← hg, gmF_zero]
      clear hg hy
      have hp : gtN 0 0 = false := rfl
      go_wp2
      go_ret
      exact ⟨by rw [hz]; rfl, rfl⟩
    · have hp : gtN y 0 = true := by
        unfold gtN
        have : y.toNat ≠ 0 := fun h => h0 (by rw [← UInt8.toNat_inj]; exact h)
        simp; omega
      obtain ⟨k', rfl⟩ : ∃ k', k = k' + 1 := by
        cases k with
        | zero => exact absurd (by rw [← UInt8.toNat_inj]; simp only [Nat.pow_zero] at hy; show y.toNat = 0; omega) h0
        | succ k' => exact ⟨k', rfl⟩
      have hh := half_lt y k' hy
      unfold gmF at hg
      have hm : (y >>> 1).toNat < y.toNat := by
        have hy0 : y.toNat ≠ 0 := fun h => h0 (by rw [← UInt8.toNat_inj]; exact h)
        rw [UInt8.toNat_shiftRight]; simp [Nat.shiftRight_eq_div_pow]; omega
      clear hy h0
      by_cases h1 : y.toNat % 2 = 1
      · rw [if_pos h1] at hg
        have hb : isN (y &&& 1) 1 = true := by unfold isN; simp; omega
        clear h1
        go_wp2_with (go_at_call 20; refine (twice_any _ _).mono ?_; rintro e wx ⟨rfl, rfl⟩)
        go_roundw
        case rel => exact ⟨trivial, k', _, _, _, by omega, hh, rfl, rfl, rfl, hg⟩
        case measure => simp only [intOf, B, Int.toNat_natCast]; exact hm
      · rw [if_neg h1] at hg
        have hb : isN (y &&& 1) 1 = false := by unfold isN; simp; omega
        clear h1
        go_wp2_with (go_at_call 20; refine (twice_any _ _).mono ?_; rintro e wx ⟨rfl, rfl⟩)
        go_roundw
        case rel => exact ⟨trivial, k', _, _, _, by omega, hh, rfl, rfl, rfl, hg⟩
        case measure => simp only [intOf, B, Int.toNat_natCast]; exact hm
end Go.Proofs.Ytgkkafkdgmdihaa
