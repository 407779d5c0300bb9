/-
  Numbers: 'Bits'; the value of limbs.
-/
import Derived.Test.YtgkhhinjdojbhaaNum3
namespace Go.Proofs.Ytgkhhinjdojbhaa
open Go.RowKit

/-- The value of limbs, the lowest first. -/
def valL : List UInt64 → Nat | [] => 0 | x :: l => x.toNat + 18446744073709551616 * valL l
theorem valL_append (a b : List UInt64) : valL (a ++ b) = valL a + 18446744073709551616 ^ a.length * valL b := by
  induction a with
  | nil => simp [valL]
  | cons x a ih =>
    rw [List.cons_append, valL, valL, ih, List.length_cons, Nat.pow_succ, Nat.mul_add, ← Nat.add_assoc, ← Nat.mul_assoc, Nat.mul_comm 18446744073709551616 (18446744073709551616 ^ a.length)]
theorem valL_lt (l : List UInt64) : valL l < 18446744073709551616 ^ l.length := by
  induction l with
  | nil => simp [valL]
  | cons x l ih =>
    have hx := x.toNat_lt
    rw [valL, List.length_cons, Nat.pow_succ]
    have : 18446744073709551616 * (valL l + 1) ≤ 18446744073709551616 * 18446744073709551616 ^ l.length := Nat.mul_le_mul_left _ ih
    rw [Nat.mul_add] at this
    rw [Nat.mul_comm (18446744073709551616 ^ l.length)]
    omega
theorem trim_ind {P : List UInt64 → Prop} (h0 : P []) (h1 : ∀ l x, P l → P (l ++ [x])) (l : List UInt64) : P l := by
  have : ∀ l : List UInt64, P l.reverse := by
    intro l
    induction l with
    | nil => exact h0
    | cons x l ih => rw [List.reverse_cons]; exact h1 _ _ ih
  have := this l.reverse
  rwa [List.reverse_reverse] at this
theorem valL_trim (l : List UInt64) : valL (trimL l) = valL l := by
  refine trim_ind (P := fun l => valL (trimL l) = valL l) rfl ?_ l
  intro l x ih
  by_cases h : x = 0
  · subst h; rw [trimL_snoc_zero, ih, valL_append]; simp [valL]
  · rw [trimL_snoc h]
theorem trimL_last (l : List UInt64) : trimL l = [] ∨ ∃ t x, trimL l = t ++ [x] ∧ x ≠ 0 := by
  refine trim_ind (P := fun l => trimL l = [] ∨ ∃ t x, trimL l = t ++ [x] ∧ x ≠ 0) (.inl rfl) ?_ l
  intro l x ih
  by_cases h : x = 0
  · subst h; rw [trimL_snoc_zero]; exact ih
  · rw [trimL_snoc h]; exact .inr ⟨l, x, rfl, h⟩
theorem bl_val {t : List UInt64} {x : UInt64} (h : x ≠ 0) : bl (valL (t ++ [x])) = 64 * t.length + bl x.toNat := by
  have hx : 1 ≤ x.toNat := by
    rcases Nat.eq_zero_or_pos x.toNat with e | e
    · exact absurd (UInt64.toNat_inj.1 (by rw [e]; rfl)) h
    · exact e
  have hv := valL_lt t
  have hp : (18446744073709551616 : Nat) ^ t.length = 2 ^ (64 * t.length) := by rw [Nat.pow_mul]
  have e : valL (t ++ [x]) = valL t + 2 ^ (64 * t.length) * x.toNat := by rw [valL_append, hp]; simp [valL]
  rw [hp] at hv
  have hpp : 0 < 2 ^ (64 * t.length) := Nat.two_pow_pos _
  have hge : 2 ^ (64 * t.length) ≤ valL (t ++ [x]) := by
    rw [e]
    have : 2 ^ (64 * t.length) * 1 ≤ 2 ^ (64 * t.length) * x.toNat := Nat.mul_le_mul_left _ hx
    omega
  rw [bl_shift _ hge, e, Nat.add_mul_div_left _ _ hpp, Nat.div_eq_of_lt hv, Nat.zero_add]
set_option maxRecDepth 100000 in
set_option maxHeartbeats 2000000 in
theorem bits_any (A : Option Addr) (m c : Nat) (l : List UInt64) (w : World) (h : RdC Try.eU w A m l) (hc : m ≤ c ∧ c ≤ maxLen) (hnil : A = none → c = 0) (hm : m ≤ 1000000) :
    Calls Try.prog 45 #[.slice A m c] w fun e w' => e = .returned (.int .i64 (bl (valL l) : Nat)) ∧ w = w' := by
  have ht := trim_any A m c l w h hc hnil
  obtain ⟨hle, hte⟩ := trimL_take l
  have hml := h.1
  have hrd : RdC Try.eU w A (trimL l).length (trimL l) := by have := h.take (trimL l).length (by omega); rwa [← hte] at this
  have hv := valL_trim l
  have hle2 : (trimL l).length ≤ 1000000 := by omega
  obtain ⟨t, htt⟩ : ∃ t, trimL l = t := ⟨_, rfl⟩
  have hl := trimL_last l
  rw [htt] at ht hrd hv hle2 hl
  rw [← hv]
  have HT := Lib.hid hrd
  clear hrd hle hte h htt hv
  go_enter Try.func45, Try.ntmps45
  go_wp2_with fail
  refine ht.mono ?_
  rintro e w1 ⟨rfl, rfl⟩
  rcases hl with rfl | ⟨s, x, rfl, hx⟩
  · clear ht
    go_wp2_with fail
    go_ret
    exact ⟨by rfl, rfl⟩
  · rw [List.length_append, List.length_singleton] at *
    obtain ⟨g, off, hAe, cx⟩ := limb_at HT.out (j := s.length) (x := x) (by simp)
    subst hAe
    have hxl := x.toNat_lt
    have hlen := len64_any x.toNat hxl w
    have hbv := bl_val (t := s) hx
    have hble : bl x.toNat ≤ 64 := by
      unfold bl
      split
      · omega
      · rename_i h0
        have := (Nat.log2_lt h0 (k := 64)).2 (by omega)
        omega
    have n1 : ¬ (((s.length + 1 : Nat) : Int) = 0) := by omega
    have n1d : decide (((s.length + 1 : Nat) : Int) = 0) = false := decide_eq_false n1
    have n2 : ((s.length + 1 : Nat) : Int) - 1 = (s.length : Int) := by omega
    obtain ⟨bx, hbx⟩ : ∃ bx, bl x.toNat = bx := ⟨_, rfl⟩
    rw [hbx] at hlen hbv hble
    have HBV := Lib.hid hbv
    clear hbv ht hx
    go_wp2_with fail
    refine hlen.mono ?_
    rintro e w2 ⟨rfl, rfl⟩
    go_wp2_with fail
    go_ret
    refine ⟨congrArg (fun z => Ending.returned (.int .i64 z)) ?_, rfl⟩
    rw [HBV.out]
    show 64 * (s.length : Int) + (bx : Int) = _
    omega
end Go.Proofs.Ytgkhhinjdojbhaa
