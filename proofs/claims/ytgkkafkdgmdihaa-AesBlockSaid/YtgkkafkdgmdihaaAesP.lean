/-
  AES, plainly: the table runs through all elements, and is the reference's.
-/
import Derived.Test.YtgkkafkdgmdihaaAes2
namespace Go.Proofs.Ytgkkafkdgmdihaa
open Go.RowKit

def stP (p : UInt8) : UInt8 := p ^^^ tw p
def stQ3 (q : UInt8) : UInt8 :=
  let a := q ^^^ (q <<< 1)
  let b := a ^^^ (a <<< 2)
  b ^^^ (b <<< 4)
def stQ (q : UInt8) : UInt8 := stQ3 q ^^^ ((stQ3 q >>> 7) * 9)
def val (q : UInt8) : UInt8 := q ^^^ rot q 1 ^^^ rot q 2 ^^^ rot q 3 ^^^ rot q 4 ^^^ 99
def itP : Nat → UInt8
  | 0 => 1
  | k + 1 => stP (itP k)
def itQ : Nat → UInt8
  | 0 => 1
  | k + 1 => stQ (itQ k)
/-- Whether n more steps from a place all hold. -/
def chk : Nat → UInt8 → UInt8 → Bool
  | 0, p, _ => p == 1
  | n + 1, p, q => (val (stQ q) == sb (stP p)) && (n == 0 || !(stP p == 1)) && chk n (stP p) (stQ q)
theorem chk_all : chk 255 1 1 = true := by decide +kernel
theorem chk_at (n : Nat) : ∀ (k : Nat), k + n = 255 → chk n (itP k) (itQ k) = true → ∀ j, k < j → j ≤ 255 → val (itQ j) = sb (itP j) ∧ (j < 255 → itP j ≠ 1) ∧ (j = 255 → itP j = 1) := by
  induction n with
  | zero => intro k hk _ j h1 h2; omega
  | succ n ih =>
    intro k hk hc j h1 h2
    unfold chk at hc
    simp only [Bool.and_eq_true, Bool.or_eq_true, beq_iff_eq, Bool.not_eq_true', beq_eq_false_iff_ne] at hc
    obtain ⟨⟨c1, c2⟩, c3⟩ := hc
    rcases Nat.lt_or_ge (k + 1) j with hlt | hge
    · exact ih (k + 1) (by omega) c3 j hlt h2
    · obtain rfl : j = k + 1 := by omega
      refine ⟨c1, fun h => ?_, fun h => ?_⟩
      · rcases c2 with c2 | c2
        · omega
        · exact c2
      · have : n = 0 := by omega
        subst this
        simp only [chk, beq_iff_eq] at c3; exact c3
theorem steps_at (j : Nat) (h1 : 1 ≤ j) (h2 : j ≤ 255) : val (itQ j) = sb (itP j) ∧ (j < 255 → itP j ≠ 1) ∧ (j = 255 → itP j = 1) := chk_at 255 0 rfl chk_all j (by omega) h2
/-- All elements but nought are met. -/
def walkP : Nat → UInt8 → List UInt8
  | 0, _ => []
  | n + 1, p => stP p :: walkP n (stP p)
theorem walkP_mem (n : Nat) : ∀ (k : Nat) (x : UInt8), x ∈ walkP n (itP k) → ∃ j, k < j ∧ j ≤ k + n ∧ itP j = x := by
  induction n with
  | zero => intro k x h; simp [walkP] at h
  | succ n ih =>
    intro k x h
    unfold walkP at h
    rcases List.mem_cons.1 h with rfl | h
    · exact ⟨k + 1, by omega, by omega, rfl⟩
    · obtain ⟨j, a, b, c⟩ := ih (k + 1) x h
      exact ⟨j, by omega, by omega, c⟩
theorem walk_all : ∀ i : Fin 256, i.val ≠ 0 → (walkP 255 1).contains (UInt8.ofNat i.val) = true := by decide +kernel
theorem all_met (x : UInt8) (h : x ≠ 0) : ∃ j, 1 ≤ j ∧ j ≤ 255 ∧ itP j = x := by
  have := walk_all ⟨x.toNat, x.toNat_lt⟩ (fun e => h (by rw [← UInt8.toNat_inj]; exact e))
  simp only [UInt8.ofNat_toNat, List.contains_iff_mem] at this
  obtain ⟨j, a, b, c⟩ := walkP_mem 255 0 x this
  exact ⟨j, by omega, by omega, c⟩
theorem sb_zero : sb 0 = 99 := by decide +kernel
/-- The inverse of the table. -/
def siL : List UInt8 := [82, 9, 106, 213, 48, 54, 165, 56, 191, 64, 163, 158, 129, 243, 215, 251, 124, 227, 57, 130, 155, 47, 255, 135, 52, 142, 67, 68, 196, 222, 233, 203, 84, 123, 148, 50, 166, 194, 35, 61, 238, 76, 149, 11, 66, 250, 195, 78, 8, 46, 161, 102, 40, 217, 36, 178, 118, 91, 162, 73, 109, 139, 209, 37, 114, 248, 246, 100, 134, 104, 152, 22, 212, 164, 92, 204, 93, 101, 182, 146, 108, 112, 72, 80, 253, 237, 185, 218, 94, 21, 70, 87, 167, 141, 157, 132, 144, 216, 171, 0, 140, 188, 211, 10, 247, 228, 88, 5, 184, 179, 69, 6, 208, 44, 30, 143, 202, 63, 15, 2, 193, 175, 189, 3, 1, 19, 138, 107, 58, 145, 17, 65, 79, 103, 220, 234, 151, 242, 207, 206, 240, 180, 230, 115, 150, 172, 116, 34, 231, 173, 53, 133, 226, 249, 55, 232, 28, 117, 223, 110, 71, 241, 26, 113, 29, 41, 197, 137, 111, 183, 98, 14, 170, 24, 190, 27, 252, 86, 62, 75, 198, 210, 121, 32, 154, 219, 192, 254, 120, 205, 90, 244, 31, 221, 168, 51, 136, 7, 199, 49, 177, 18, 16, 89, 39, 128, 236, 95, 96, 81, 127, 169, 25, 181, 74, 13, 45, 229, 122, 159, 147, 201, 156, 239, 160, 224, 59, 77, 174, 42, 245, 176, 200, 235, 187, 60, 131, 83, 153, 97, 23, 43, 4, 126, 186, 119, 214, 38, 225, 105, 20, 99, 85, 33, 12, 125]
def si (x : UInt8) : UInt8 := siL.getD x.toNat 0
theorem si_all : ∀ i : Fin 256, si (sb (UInt8.ofNat i.val)) = UInt8.ofNat i.val := by decide +kernel
theorem si_sb (x : UInt8) : si (sb x) = x := by revert x; exact all8 si_all
theorem sb_inj (x y : UInt8) (h : sb x = sb y) : x = y := by rw [← si_sb x, h, si_sb]
theorem sb_si_all : ∀ i : Fin 256, sb (si (UInt8.ofNat i.val)) = UInt8.ofNat i.val := by decide +kernel
theorem sb_si (x : UInt8) : sb (si x) = x := by revert x; exact all8 sb_si_all
end Go.Proofs.Ytgkkafkdgmdihaa
