/-
  Bytes of the field of 256 elements: twice, turn, times.
  Bytes of the field of 256 elements, as the reference reckons them.
  AES, plainly: the table runs through all elements, and is the reference's.
  How far the table's loop is, told by the element it is at.
-/
import Derived.Test.YtiocmebcbhbcmaaZzReg
import Derived.Test.YtiocmebcbhbcmaaZzWordsB
namespace Go.Proofs.Ytiocmebcbhbcmaa
set_option maxRecDepth 100000
open Go.RowKit

/-- By x. -/
def tw (b : UInt8) : UInt8 := (b <<< 1) ^^^ ((b >>> 7) * 27)
theorem twice_any (b : UInt8) (w : World) : Calls Try.prog 64 #[B b] w fun e w' => e = .returned (B (tw b)) ∧ w = w' := by
  go_enter Try.func64, Try.ntmps64
  go_wp2
  go_ret
  exact ⟨rfl, rfl⟩
def rot (b : UInt8) (n : Nat) : UInt8 := (b <<< UInt8.ofNat n) ||| (b >>> UInt8.ofNat (8 - n))
theorem turn_any (b : UInt8) (n : Nat) (hn : n = 1 ∨ n = 2 ∨ n = 3 ∨ n = 4) (w : World) : Calls Try.prog 77 #[B b, .int .u64 n] w fun e w' => e = .returned (B (rot b n)) ∧ w = w' := by
  rcases hn with rfl | rfl | rfl | rfl
  all_goals
    go_enter Try.func77, Try.ntmps77
    go_wp2
    go_ret
    exact ⟨rfl, rfl⟩
/-- Products, by the bits of the second. -/
def gmF : Nat → UInt8 → UInt8 → UInt8 → UInt8
  | 0, _, _, o => o
  | n + 1, a, f, o => gmF n (tw a) (f >>> 1) (if f.toNat % 2 = 1 then o ^^^ a else o)
def gm (a f : UInt8) : UInt8 := gmF 8 a f 0
theorem half_lt (f : UInt8) (k : Nat) (h : f.toNat < 2 ^ (k + 1)) : (f >>> 1).toNat < 2 ^ k := by
  rw [UInt8.toNat_shiftRight]
  simp [Nat.shiftRight_eq_div_pow]
  rw [Nat.pow_succ] at h
  omega
theorem gmF_zero (k : Nat) : ∀ (a o : UInt8), gmF k a 0 o = o := by
  induction k with
  | zero => intro a o; rfl
  | succ k ih => intro a o; unfold gmF; simp; exact ih _ _
theorem times_any (b f : UInt8) (w : World) : Calls Try.prog 85 #[B b, B f] w fun e w' => e = .returned (B (gm b f)) ∧ w = w' := by
  go_enter Try.func85, Try.ntmps85
  go_wp2
  go_loopw [0, 1, 5] (fun bv fv ov wr => wr = w ∧ ∃ (k : Nat) (x y o : UInt8), k ≤ 8 ∧ y.toNat < 2 ^ k ∧ bv = B x ∧ fv = B y ∧ ov = B o ∧ gmF k x y o = gm b f) (fun _ fv _ _ => (intOf fv).toNat)
  case atStart => exact ⟨rfl, 8, b, f, 0, by omega, f.toNat_lt, rfl, rfl, rfl, rfl⟩
  case round =>
    obtain ⟨rfl, k, x, y, o, hk, hy, rfl, rfl, rfl, hg⟩ := hrel
    by_cases h0 : y = 0
    · subst h0
      have hz : o = gm b f := by rw [← hg, gmF_zero]
      clear hg hy
      have hp : gtN 0 0 = false := rfl
      go_wp2
      go_ret
      exact ⟨by rw [hz]; rfl, rfl⟩
    · have hp : gtN y 0 = true := by
        unfold gtN
        have : y.toNat ≠ 0 := fun h => h0 (by rw [← UInt8.toNat_inj]; exact h)
        simp; omega
      obtain ⟨k', rfl⟩ : ∃ k', k = k' + 1 := by
        cases k with
        | zero => exact absurd (by rw [← UInt8.toNat_inj]; simp only [Nat.pow_zero] at hy; show y.toNat = 0; omega) h0
        | succ k' => exact ⟨k', rfl⟩
      have hh := half_lt y k' hy
      unfold gmF at hg
      have hm : (y >>> 1).toNat < y.toNat := by
        have hy0 : y.toNat ≠ 0 := fun h => h0 (by rw [← UInt8.toNat_inj]; exact h)
        rw [UInt8.toNat_shiftRight]; simp [Nat.shiftRight_eq_div_pow]; omega
      clear hy h0
      by_cases h1 : y.toNat % 2 = 1
      · rw [if_pos h1] at hg
        have hb : isN (y &&& 1) 1 = true := by unfold isN; simp; omega
        clear h1
        go_wp2_with (go_at_call 64; refine (twice_any _ _).mono ?_; rintro e wx ⟨rfl, rfl⟩)
        go_roundw
        case rel => exact ⟨trivial, k', _, _, _, by omega, hh, rfl, rfl, rfl, hg⟩
        case measure => simp only [intOf, B, Int.toNat_natCast]; exact hm
      · rw [if_neg h1] at hg
        have hb : isN (y &&& 1) 1 = false := by unfold isN; simp; omega
        clear h1
        go_wp2_with (go_at_call 64; refine (twice_any _ _).mono ?_; rintro e wx ⟨rfl, rfl⟩)
        go_roundw
        case rel => exact ⟨trivial, k', _, _, _, by omega, hh, rfl, rfl, rfl, hg⟩
        case measure => simp only [intOf, B, Int.toNat_natCast]; exact hm
end Go.Proofs.Ytiocmebcbhbcmaa
namespace Go.Proofs.Ytiocmebcbhbcmaa
set_option maxRecDepth 100000
open Go.RowKit

theorem tw_arm (a : UInt8) : (if geN a 128 then (a * 2) ^^^ 27 else a * 2) = tw a := by
  revert a; refine all8 ?_; decide +kernel
theorem rtimes_any (b f : UInt8) (w : World) : Calls Try.prog 59 #[B b, B f] w fun e w' => e = .returned (B (gm b f)) ∧ w = w' := by
  go_enter Try.func59, Try.ntmps59
  go_wp2
  go_loopw [0, 1, 5, 6] (fun bv fv ov _ wr => wr = w ∧ ∃ (k : Nat) (x y o : UInt8), k ≤ 8 ∧ y.toNat < 2 ^ k ∧ bv = B x ∧ fv = B y ∧ ov = B o ∧ gmF k x y o = gm b f) (fun _ fv _ _ _ => (intOf fv).toNat)
  case atStart => exact ⟨rfl, 8, b, f, 0, by omega, f.toNat_lt, rfl, rfl, rfl, rfl⟩
  case round =>
    obtain ⟨rfl, k, x, y, o, hk, hy, rfl, rfl, rfl, hg⟩ := hrel
    by_cases h0 : y = 0
    · subst h0
      have hz : o = gm b f := by rw [← hg, gmF_zero]
      clear hg hy
      have hp : gtN 0 0 = false := rfl
      go_wp2
      go_ret
      exact ⟨by rw [hz]; rfl, rfl⟩
    · have hp : gtN y 0 = true := by
        unfold gtN
        have : y.toNat ≠ 0 := fun h => h0 (by rw [← UInt8.toNat_inj]; exact h)
        simp; omega
      obtain ⟨k', rfl⟩ : ∃ k', k = k' + 1 := by
        cases k with
        | zero => exact absurd (by rw [← UInt8.toNat_inj]; simp only [Nat.pow_zero] at hy; show y.toNat = 0; omega) h0
        | succ k' => exact ⟨k', rfl⟩
      have hh := half_lt y k' hy
      unfold gmF at hg
      have hm : (y >>> 1).toNat < y.toNat := by
        have hy0 : y.toNat ≠ 0 := fun h => h0 (by rw [← UInt8.toNat_inj]; exact h)
        rw [UInt8.toNat_shiftRight]; simp [Nat.shiftRight_eq_div_pow]; omega
      clear hy h0
      by_cases h1 : y.toNat % 2 = 1
      · rw [if_pos h1] at hg
        have hb : isN (y &&& 1) 1 = true := by unfold isN; simp; omega
        clear h1
        have htw := tw_arm x
        rcases Bool.eq_false_or_eq_true (geN x 128) with hx | hx
        all_goals
          rw [hx] at htw
          simp only [if_true, if_false, Bool.false_eq_true] at htw
          have HT := Lib.hid htw
          clear htw
          go_wp2
          go_roundw
          case rel => exact ⟨trivial, k', _, _, _, by omega, hh, rfl, rfl, rfl, by rw [HT.out]; exact hg⟩
          case measure => simp only [intOf, B, Int.toNat_natCast]; exact hm
      · rw [if_neg h1] at hg
        have hb : isN (y &&& 1) 1 = false := by unfold isN; simp; omega
        clear h1
        have htw := tw_arm x
        rcases Bool.eq_false_or_eq_true (geN x 128) with hx | hx
        all_goals
          rw [hx] at htw
          simp only [if_true, if_false, Bool.false_eq_true] at htw
          have HT := Lib.hid htw
          clear htw
          go_wp2
          go_roundw
          case rel => exact ⟨trivial, k', _, _, _, by omega, hh, rfl, rfl, rfl, by rw [HT.out]; exact hg⟩
          case measure => simp only [intOf, B, Int.toNat_natCast]; exact hm
def invF : Nat → UInt8 → UInt8 → UInt8
  | 0, _, p => p
  | n + 1, a, p => invF n (gm a a) (gm p (gm a a))
theorem inverse_any (b : UInt8) (w : World) : Calls Try.prog 86 #[B b] w fun e w' => e = .returned (B (invF 7 b 1)) ∧ w = w' := by
  go_enter Try.func86, Try.ntmps86
  go_wp2
  go_loopw [0, 3, 4] (fun av pv iv wr => wr = w ∧ ∃ (k : Nat) (x p : UInt8), k ≤ 7 ∧ iv = .int .i64 (k : Nat) ∧ av = B x ∧ pv = B p ∧ invF (7 - k) x p = invF 7 b 1) (fun _ _ iv _ => 7 - (intOf iv).toNat)
  case atStart => exact ⟨rfl, 0, b, 1, by omega, rfl, rfl, rfl, rfl⟩
  case round =>
    obtain ⟨rfl, k, x, p, hk, rfl, rfl, rfl, hg⟩ := hrel
    have hk0 : (0 : Int) ≤ k := by omega
    rcases Nat.lt_or_ge k 7 with hlt | hge
    · have hi : (k : Int) < 7 := by omega
      have hs : 7 - k = (7 - (k + 1)) + 1 := by omega
      rw [hs] at hg
      unfold invF at hg
      have HG := Lib.hid hg
      clear hg hs
      go_wp2_with (go_at_call 59; refine (rtimes_any _ _ _).mono ?_; rintro e wx ⟨rfl, rfl⟩)
      go_roundw
      case rel => exact ⟨trivial, k + 1, _, _, by omega, by go_num, rfl, rfl, HG.out⟩
      case measure => simp [intOf]; omega
    · obtain rfl : k = 7 := by omega
      have hi : ¬ ((7 : Int) < 7) := by omega
      have hz : p = invF 7 b 1 := hg
      have HG := Lib.hid hz
      clear hg hz
      go_wp2
      go_ret
      exact ⟨by rw [← HG.out]; rfl, rfl⟩
def subF : Nat → UInt8 → UInt8 → UInt8
  | 0, _, s => s
  | n + 1, x, s => subF n ((x <<< 1) ||| (x >>> 7)) (s ^^^ x)
def sb (a : UInt8) : UInt8 := subF 5 (invF 7 a 1) 99
theorem sub_any (b : UInt8) (w : World) : Calls Try.prog 75 #[B b] w fun e w' => e = .returned (B (sb b)) ∧ w = w' := by
  go_enter Try.func75, Try.ntmps75
  go_wp2_with (go_at_call 86; refine (inverse_any _ _).mono ?_; rintro e wx ⟨rfl, rfl⟩)
  go_loopw [3, 4, 5] (fun xv sv iv wr => wr = w ∧ ∃ (k : Nat) (x s : UInt8), k ≤ 5 ∧ iv = .int .i64 (k : Nat) ∧ xv = B x ∧ sv = B s ∧ subF (5 - k) x s = sb b) (fun _ _ iv _ => 5 - (intOf iv).toNat)
  case atStart => exact ⟨rfl, 0, _, 99, by omega, rfl, rfl, rfl, rfl⟩
  case round =>
    obtain ⟨rfl, k, x, s, hk, rfl, rfl, rfl, hg⟩ := hrel
    have hk0 : (0 : Int) ≤ k := by omega
    rcases Nat.lt_or_ge k 5 with hlt | hge
    · have hi : (k : Int) < 5 := by omega
      have hs : 5 - k = (5 - (k + 1)) + 1 := by omega
      rw [hs] at hg
      unfold subF at hg
      have HG := Lib.hid hg
      clear hg hs
      go_wp2
      go_roundw
      case rel => exact ⟨trivial, k + 1, _, _, by omega, by go_num, rfl, rfl, HG.out⟩
      case measure => simp [intOf]; omega
    · obtain rfl : k = 5 := by omega
      have hi : ¬ ((5 : Int) < 5) := by omega
      have hz : s = sb b := hg
      have HG := Lib.hid hz
      clear hg hz
      go_wp2
      go_ret
      exact ⟨by rw [← HG.out]; rfl, rfl⟩
end Go.Proofs.Ytiocmebcbhbcmaa
namespace Go.Proofs.Ytiocmebcbhbcmaa
set_option maxRecDepth 100000
open Go.RowKit

def stP (p : UInt8) : UInt8 := p ^^^ tw p
def stQ3 (q : UInt8) : UInt8 :=
  let a := q ^^^ (q <<< 1)
  let b := a ^^^ (a <<< 2)
  b ^^^ (b <<< 4)
def stQ (q : UInt8) : UInt8 := stQ3 q ^^^ ((stQ3 q >>> 7) * 9)
def val (q : UInt8) : UInt8 := q ^^^ rot q 1 ^^^ rot q 2 ^^^ rot q 3 ^^^ rot q 4 ^^^ 99
def itP : Nat → UInt8
  | 0 => 1
  | k + 1 => stP (itP k)
def itQ : Nat → UInt8
  | 0 => 1
  | k + 1 => stQ (itQ k)
/-- Whether n more steps from a place all hold. -/
def chk : Nat → UInt8 → UInt8 → Bool
  | 0, p, _ => p == 1
  | n + 1, p, q => (val (stQ q) == sb (stP p)) && (n == 0 || !(stP p == 1)) && chk n (stP p) (stQ q)
theorem chk_all : chk 255 1 1 = true := by decide +kernel
theorem chk_at (n : Nat) : ∀ (k : Nat), k + n = 255 → chk n (itP k) (itQ k) = true → ∀ j, k < j → j ≤ 255 → val (itQ j) = sb (itP j) ∧ (j < 255 → itP j ≠ 1) ∧ (j = 255 → itP j = 1) := by
  induction n with
  | zero => intro k hk _ j h1 h2; omega
  | succ n ih =>
    intro k hk hc j h1 h2
    unfold chk at hc
    simp only [Bool.and_eq_true, Bool.or_eq_true, beq_iff_eq, Bool.not_eq_true', beq_eq_false_iff_ne] at hc
    obtain ⟨⟨c1, c2⟩, c3⟩ := hc
    rcases Nat.lt_or_ge (k + 1) j with hlt | hge
    · exact ih (k + 1) (by omega) c3 j hlt h2
    · obtain rfl : j = k + 1 := by omega
      refine ⟨c1, fun h => ?_, fun h => ?_⟩
      · rcases c2 with c2 | c2
        · omega
        · exact c2
      · have : n = 0 := by omega
        subst this
        simp only [chk, beq_iff_eq] at c3; exact c3
theorem steps_at (j : Nat) (h1 : 1 ≤ j) (h2 : j ≤ 255) : val (itQ j) = sb (itP j) ∧ (j < 255 → itP j ≠ 1) ∧ (j = 255 → itP j = 1) := chk_at 255 0 rfl chk_all j (by omega) h2
/-- All elements but nought are met. -/
def walkP : Nat → UInt8 → List UInt8
  | 0, _ => []
  | n + 1, p => stP p :: walkP n (stP p)
theorem walkP_mem (n : Nat) : ∀ (k : Nat) (x : UInt8), x ∈ walkP n (itP k) → ∃ j, k < j ∧ j ≤ k + n ∧ itP j = x := by
  induction n with
  | zero => intro k x h; simp [walkP] at h
  | succ n ih =>
    intro k x h
    unfold walkP at h
    rcases List.mem_cons.1 h with rfl | h
    · exact ⟨k + 1, by omega, by omega, rfl⟩
    · obtain ⟨j, a, b, c⟩ := ih (k + 1) x h
      exact ⟨j, by omega, by omega, c⟩
theorem walk_all : ∀ i : Fin 256, i.val ≠ 0 → (walkP 255 1).contains (UInt8.ofNat i.val) = true := by decide +kernel
theorem all_met (x : UInt8) (h : x ≠ 0) : ∃ j, 1 ≤ j ∧ j ≤ 255 ∧ itP j = x := by
  have := walk_all ⟨x.toNat, x.toNat_lt⟩ (fun e => h (by rw [← UInt8.toNat_inj]; exact e))
  simp only [UInt8.ofNat_toNat, List.contains_iff_mem] at this
  obtain ⟨j, a, b, c⟩ := walkP_mem 255 0 x this
  exact ⟨j, by omega, by omega, c⟩
theorem sb_zero : sb 0 = 99 := by decide +kernel
/-- The inverse of the table. -/
def siL : List UInt8 := [82, 9, 106, 213, 48, 54, 165, 56, 191, 64, 163, 158, 129, 243, 215, 251, 124, 227, 57, 130, 155, 47, 255, 135, 52, 142, 67, 68, 196, 222, 233, 203, 84, 123, 148, 50, 166, 194, 35, 61, 238, 76, 149, 11, 66, 250, 195, 78, 8, 46, 161, 102, 40, 217, 36, 178, 118, 91, 162, 73, 109, 139, 209, 37, 114, 248, 246, 100, 134, 104, 152, 22, 212, 164, 92, 204, 93, 101, 182, 146, 108, 112, 72, 80, 253, 237, 185, 218, 94, 21, 70, 87, 167, 141, 157, 132, 144, 216, 171, 0, 140, 188, 211, 10, 247, 228, 88, 5, 184, 179, 69, 6, 208, 44, 30, 143, 202, 63, 15, 2, 193, 175, 189, 3, 1, 19, 138, 107, 58, 145, 17, 65, 79, 103, 220, 234, 151, 242, 207, 206, 240, 180, 230, 115, 150, 172, 116, 34, 231, 173, 53, 133, 226, 249, 55, 232, 28, 117, 223, 110, 71, 241, 26, 113, 29, 41, 197, 137, 111, 183, 98, 14, 170, 24, 190, 27, 252, 86, 62, 75, 198, 210, 121, 32, 154, 219, 192, 254, 120, 205, 90, 244, 31, 221, 168, 51, 136, 7, 199, 49, 177, 18, 16, 89, 39, 128, 236, 95, 96, 81, 127, 169, 25, 181, 74, 13, 45, 229, 122, 159, 147, 201, 156, 239, 160, 224, 59, 77, 174, 42, 245, 176, 200, 235, 187, 60, 131, 83, 153, 97, 23, 43, 4, 126, 186, 119, 214, 38, 225, 105, 20, 99, 85, 33, 12, 125]
def si (x : UInt8) : UInt8 := siL.getD x.toNat 0
theorem si_all : ∀ i : Fin 256, si (sb (UInt8.ofNat i.val)) = UInt8.ofNat i.val := by decide +kernel
theorem si_sb (x : UInt8) : si (sb x) = x := by revert x; exact all8 si_all
theorem sb_inj (x y : UInt8) (h : sb x = sb y) : x = y := by rw [← si_sb x, h, si_sb]
theorem sb_si_all : ∀ i : Fin 256, sb (si (UInt8.ofNat i.val)) = UInt8.ofNat i.val := by decide +kernel
theorem sb_si (x : UInt8) : sb (si x) = x := by revert x; exact all8 sb_si_all
end Go.Proofs.Ytiocmebcbhbcmaa
namespace Go.Proofs.Ytiocmebcbhbcmaa
set_option maxRecDepth 100000
open Go.RowKit

def mz (p : UInt8) : Nat := (1 :: walkP 254 1).idxOf p
/-- Whether n more places, from number k on, tell their number. -/
def chkM : Nat → Nat → UInt8 → Bool
  | 0, _, _ => true
  | n + 1, k, p => (mz p == k) && chkM n (k + 1) (stP p)
theorem chkM_all : chkM 255 0 1 = true := by decide +kernel
theorem chkM_at (n : Nat) : ∀ (k : Nat), chkM n k (itP k) = true → ∀ j, k ≤ j → j < k + n → mz (itP j) = j := by
  induction n with
  | zero => intro k _ j h1 h2; omega
  | succ n ih =>
    intro k hc j h1 h2
    unfold chkM at hc
    simp only [Bool.and_eq_true, beq_iff_eq] at hc
    rcases Nat.lt_or_ge k j with hlt | hge
    · exact ih (k + 1) hc.2 j (by omega) (by omega)
    · obtain rfl : j = k := by omega
      exact hc.1
theorem mz_at (j : Nat) (h : j < 255) : mz (itP j) = j := chkM_at 255 0 chkM_all j (by omega) (by omega)
end Go.Proofs.Ytiocmebcbhbcmaa
