/-
  The field of GHASH, plainly: the product is bilinear, and commutes.
-/
import Derived.Test.YtgkkafkdgmdihaaAesJ
namespace Go.Proofs.Ytgkkafkdgmdihaa
open Go.RowKit

abbrev V := BitVec 128
def RV : V := 0xe1000000000000000000000000000000#128
def S1 (v : V) : V := (v >>> 1) ^^^ (if v.getLsbD 0 then RV else 0)
def SI : Nat → V → V
  | 0, v => v
  | i + 1, v => S1 (SI i v)
def xs (f : Nat → V) : Nat → V
  | 0 => 0
  | n + 1 => xs f n ^^^ f n
theorem S1_xor (a b : V) : S1 (a ^^^ b) = S1 a ^^^ S1 b := by
  unfold S1
  rw [BitVec.ushiftRight_xor_distrib, BitVec.getLsbD_xor]
  cases a.getLsbD 0 <;> cases b.getLsbD 0 <;> simp
  · rw [BitVec.xor_assoc]
  · rw [BitVec.xor_assoc, BitVec.xor_assoc, BitVec.xor_comm (b >>> 1)]
  · have : (a >>> 1 ^^^ RV) ^^^ (b >>> 1 ^^^ RV) = (a >>> 1 ^^^ b >>> 1) ^^^ (RV ^^^ RV) := by ac_rfl
    rw [this]; simp
theorem S1_zero : S1 0 = 0 := by decide
theorem SI_xor (i : Nat) (a b : V) : SI i (a ^^^ b) = SI i a ^^^ SI i b := by
  induction i with
  | zero => rfl
  | succ i ih => show S1 (SI i (a ^^^ b)) = S1 (SI i a) ^^^ S1 (SI i b); rw [ih, S1_xor]
theorem SI_zero (i : Nat) : SI i 0 = 0 := by
  induction i with
  | zero => rfl
  | succ i ih => show S1 (SI i 0) = 0; rw [ih, S1_zero]
theorem SI_add (i j : Nat) (v : V) : SI i (SI j v) = SI (i + j) v := by
  induction i with
  | zero => rw [Nat.zero_add]; rfl
  | succ i ih => rw [Nat.succ_add]; show S1 (SI i (SI j v)) = S1 (SI (i + j) v); rw [ih]
theorem xs_congr (f g : Nat → V) (n : Nat) (h : ∀ i, i < n → f i = g i) : xs f n = xs g n := by
  induction n with
  | zero => rfl
  | succ n ih => unfold xs; rw [ih (fun i hi => h i (by omega)), h n (by omega)]
theorem SI_xs (i : Nat) (f : Nat → V) (n : Nat) : SI i (xs f n) = xs (fun j => SI i (f j)) n := by
  induction n with
  | zero => exact SI_zero i
  | succ n ih => show SI i (xs f n ^^^ f n) = _; rw [SI_xor, ih]; rfl
theorem xs_xor (f g : Nat → V) (n : Nat) : xs (fun i => f i ^^^ g i) n = xs f n ^^^ xs g n := by
  induction n with
  | zero => simp [xs]
  | succ n ih => unfold xs; rw [ih]; ac_rfl
theorem xs_zero (n : Nat) : xs (fun _ => 0) n = 0 := by
  induction n with
  | zero => rfl
  | succ n ih => unfold xs; rw [ih]; simp
theorem xs_swap (g : Nat → Nat → V) (n m : Nat) : xs (fun i => xs (fun j => g i j) m) n = xs (fun j => xs (fun i => g i j) n) m := by
  induction n with
  | zero => show 0 = xs (fun j => 0) m; rw [xs_zero]
  | succ n ih =>
    show xs (fun i => xs (fun j => g i j) m) n ^^^ xs (fun j => g n j) m = xs (fun j => xs (fun i => g i j) n ^^^ g n j) m
    rw [ih, xs_xor]
/-- The product. -/
def mulV (x y : V) : V := xs (fun i => if x.getMsbD i then SI i y else 0) 128
def EV : V := 1#128 <<< 127
theorem unit_all : ∀ j : Fin 128, SI j.val EV = 1#128 <<< (127 - j.val) := by decide +kernel
theorem unit_bit (j k : Nat) (hj : j < 128) (hk : k < 128) : (1#128 <<< (127 - j)).getMsbD k = decide (k = j) := by
  rw [BitVec.getMsbD_eq_getLsbD]
  simp only [BitVec.getLsbD_shiftLeft, BitVec.getLsbD_one]
  by_cases h : k = j
  · subst h; simp [hk]; omega
  · simp [hk, h]; omega
theorem xs_bits (v : V) (n : Nat) (hn : n ≤ 128) (k : Nat) (hk : k < 128) : (xs (fun j => if v.getMsbD j then 1#128 <<< (127 - j) else 0) n).getMsbD k = (decide (k < n) && v.getMsbD k) := by
  induction n with
  | zero => simp [xs]
  | succ n ih =>
    unfold xs
    rw [BitVec.getMsbD_xor, ih (by omega)]
    by_cases hv : v.getMsbD n
    · rw [if_pos hv, unit_bit n k (by omega) hk]
      by_cases h : k = n
      · subst h; simp [hv]
      · have : decide (k < n + 1) = decide (k < n) := by simp; omega
        simp [h, this]
    · rw [if_neg hv]
      by_cases h : k = n
      · subst h; simp [hv]
      · have : decide (k < n + 1) = decide (k < n) := by simp; omega
        simp [this]
theorem units (v : V) : v = xs (fun j => if v.getMsbD j then SI j EV else 0) 128 := by
  rw [xs_congr _ (fun j => if v.getMsbD j then 1#128 <<< (127 - j) else 0) 128 (fun j hj => by rw [unit_all ⟨j, hj⟩])]
  refine BitVec.eq_of_getMsbD_eq fun k hk => ?_
  rw [xs_bits v 128 (by omega) k hk]
  simp [hk]
theorem mulV_comm (x y : V) : mulV x y = mulV y x := by
  have key : ∀ x y : V, mulV x y = xs (fun i => xs (fun j => if x.getMsbD i && y.getMsbD j then SI (i + j) EV else 0) 128) 128 := fun x y => by
    unfold mulV
    refine xs_congr _ _ 128 fun i _ => ?_
    by_cases hx : x.getMsbD i
    · rw [if_pos hx]
      conv => lhs; rw [units y]
      rw [SI_xs]
      refine xs_congr _ _ 128 fun j _ => ?_
      by_cases hy : y.getMsbD j
      · rw [if_pos hy, SI_add, hx, hy]; rfl
      · rw [if_neg hy, SI_zero]; simp [hy]
    · rw [if_neg hx]
      simp only [hx, Bool.false_and]
      exact (xs_zero 128).symm
  rw [key x y, key y x, xs_swap]
  refine xs_congr _ _ 128 fun j _ => xs_congr _ _ 128 fun i _ => ?_
  rw [Nat.add_comm, Bool.and_comm]
end Go.Proofs.Ytgkkafkdgmdihaa
