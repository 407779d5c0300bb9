/-
  DER: numbers to the base 128.
-/
import Derived.Test.YtgkhhinjdojbhaaDer19
namespace Go.Proofs.Ytgkhhinjdojbhaa
open Go.RowKit

/-- The digits ahead of the last one. -/
def digHi (n : Nat) : List UInt8 := if h : n = 0 then [] else digHi (n / 128) ++ [UInt8.ofNat (128 + n % 128)]
termination_by n
decreasing_by omega
def dig (n : Nat) : List UInt8 := digHi (n / 128) ++ [UInt8.ofNat (n % 128)]
theorem digHi_zero : digHi 0 = [] := by unfold digHi; rfl
theorem digHi_step {n : Nat} {l : List UInt8} (h : n ≠ 0) : digHi (n / 128) ++ UInt8.ofNat (128 + n % 128) :: l = digHi n ++ l := by
  conv => rhs; rw [digHi, dif_neg h]
  rw [List.append_assoc]; rfl
theorem digHi_len {n k : Nat} (h : n < 128 ^ k) : (digHi n).length ≤ k := by
  induction k generalizing n with
  | zero => simp at h; subst h; rw [digHi_zero]; simp
  | succ k ih =>
    by_cases h0 : n = 0
    · subst h0; rw [digHi_zero]; simp
    · rw [digHi, dif_neg h0, List.length_append, List.length_singleton]
      have := ih (n := n / 128) (by rw [Nat.pow_succ] at h; omega)
      omega
theorem and127 (a : Nat) (ha : a < 9223372036854775808) : bits .and .i64 (a : Int) 127 = ((a % 128 : Nat) : Int) := by
  have h1 : (BitVec.ofInt 64 (a : Int)).toNat = a := by
    rw [BitVec.ofInt_natCast, BitVec.toNat_ofNat]; exact Nat.mod_eq_of_lt (by omega)
  show IntKind.i64.wrap ((BitVec.ofInt 64 (a : Int) &&& BitVec.ofInt 64 127).toNat : Int) = _
  rw [BitVec.toNat_and, h1, show (BitVec.ofInt 64 127).toNat = 2 ^ 7 - 1 from rfl, Nat.and_two_pow_sub_one_eq_mod]
  exact IntWalk.i64_in _ (by omega)
theorem or128 (r : Nat) (hr : r < 128) : bits .or .i64 (r : Int) 128 = ((128 + r : Nat) : Int) := by
  rw [show (128 : Int) = ((128 : Nat) : Int) from rfl, bits_or_i64 r 128 (by omega) (by omega)]
  have := Nat.two_pow_add_eq_or_of_lt (i := 7) (b := r) (by omega) 1
  rw [show (2 : Nat) ^ 7 * 1 = 128 from rfl] at this
  rw [Nat.or_comm, ← this]
set_option maxRecDepth 100000 in
set_option maxHeartbeats 4000000 in
theorem digits_any (n : Nat) (hn : n < 536870912) (w : World) :
    Calls Try.prog 48 #[.int .i64 (n : Int)] w fun e w' => ∃ A1 n1 c1, e = .returned (.slice A1 n1 c1) ∧ Own w' w.heap.size (.slice A1 n1 c1) (dig n) ∧ Below w.heap.size w w' := by
  obtain ⟨X, hX⟩ : ∃ X, w.heap.size = X := ⟨_, rfl⟩
  have ha := and127 n (by omega)
  have hd : dig n = digHi (n / 128) ++ [UInt8.ofNat (n % 128)] := rfl
  obtain ⟨r, hr⟩ : ∃ r, n % 128 = r := ⟨_, rfl⟩
  obtain ⟨q, hq⟩ : ∃ q, n / 128 = q := ⟨_, rfl⟩
  have hq1 : (n : Int) / 128 = (q : Int) := by omega
  have hql : q < 4194304 := by omega
  have hr1 : (r : Int) % 256 = r := by omega
  have hr2 : r < 128 := by omega
  have hr8 : (r : Int) < 256 := by omega
  rw [hr] at ha hd
  rw [hq] at hd
  have hBr := B_small (n := r) (by omega)
  obtain ⟨wA, hwA⟩ : ∃ wA, w.alloc (.cells #[.int .u8 (r : Int)] 5) = wA := ⟨_, rfl⟩
  have bA : Blk wA X 5 #[B (UInt8.ofNat r)] := by rw [hBr, ← hwA, ← hX]; exact Blk.new _ _ _
  have hbA : Below w.heap.size w wA := by rw [← hwA]; exact (Below.refl _ _).alloc (Nat.le_refl _) _
  have hOA := Own.one (base := X) bA (Nat.le_refl _)
  have HA := Lib.hid (And.intro hOA (And.intro hbA (And.intro hd hX)))
  clear hOA hbA bA hBr hd hr hq
  go_enter Try.func48, Try.ntmps48
  go_wp2_with fail
  try rw [hX]
  try rw [hwA]
  go_wp2_with fail
  clear ha
  go_loopw [0, 3] (fun kk ll wr => ∃ (k : Nat) (A : Option Addr) (nl cl : Nat) (l : List UInt8), k ≤ q ∧ kk = .int .i64 (k : Int) ∧ ll = .slice A nl cl ∧ Own wr X (.slice A nl cl) l ∧ l.length + (digHi k).length ≤ 6 ∧ digHi k ++ l = dig n ∧ Below X w wr) (fun kk _ _ => (intOf kk).toNat)
  case atStart => exact ⟨q, some ⟨X, 0, none⟩, 1, 1, [UInt8.ofNat r], Nat.le_refl _, rfl, rfl, HA.out.1, by have := digHi_len (n := q) (k := 5) (by omega); simp; omega, by rw [HA.out.2.2.1], by rw [← HA.out.2.2.2]; exact HA.out.2.1⟩
  case round =>
    obtain ⟨k, A, nl, cl, l, hk, rfl, rfl, hO, hlen, hdg, hB⟩ := hrel
    have hX2 : X ≤ wr.heap.size := by have := hB.size; have := HA.out.2.2.2; omega
    by_cases h0 : k = 0
    · subst h0
      rw [digHi_zero, List.nil_append] at hdg
      subst hdg
      have HS := Lib.hid (And.intro hO hB)
      clear hO hB hlen
      go_wp2_with fail
      go_ret
      exact ⟨A, nl, cl, rfl, by first | exact HS.out.1 | (rw [hX]; exact HS.out.1), by first | exact HS.out.2 | (rw [hX]; exact HS.out.2)⟩
    · have t1 : (0 : Int) < k := by omega
      have t1d : decide ((0 : Int) < (k : Int)) = true := decide_eq_true t1
      have ha := and127 k (by omega)
      obtain ⟨r2, hr2⟩ : ∃ r2, k % 128 = r2 := ⟨_, rfl⟩
      obtain ⟨q2, hq2⟩ : ∃ q2, k / 128 = q2 := ⟨_, rfl⟩
      have hlow := digHi_step (n := k) (l := l) h0
      have hlh : (digHi k).length = (digHi q2).length + 1 := by
        conv => lhs; rw [digHi, dif_neg h0]
        rw [List.length_append, hq2]; rfl
      rw [hr2, hq2] at hlow
      rw [hr2] at ha
      have ho := or128 r2 (by omega)
      have hq3 : (k : Int) / 128 = (q2 : Int) := by omega
      have hq4 : q2 < k := by omega
      obtain ⟨s, hs⟩ : ∃ s, 128 + r2 = s := ⟨_, rfl⟩
      rw [hs] at ho hlow
      have hs1 : (s : Int) % 256 = s := by omega
      have hs2 : s < 256 := by omega
      have hBs := B_small hs2
      have bC : Blk (wr.alloc (.cells #[.int .u8 (s : Int)] 5)) wr.heap.size 5 #[B (UInt8.ofNat s)] := by rw [hBs]; exact Blk.new _ _ _
      have hOC := Own.one (base := X) bC hX2
      have hbC : Below wr.heap.size wr (wr.alloc (.cells #[.int .u8 (s : Int)] 5)) := (Below.refl _ _).alloc (Nat.le_refl _) _
      have HS := Lib.hid (And.intro hOC (And.intro (hO.below hbC).rd (And.intro (hB.alloc hX2 (.cells #[.int .u8 (s : Int)] 5)) (hlow.trans hdg))))
      have HL := Lib.hid (And.intro hlen hlh)
      clear hOC hbC bC hBs hO hB hlow hdg hlen hlh hr2 hq2 hs
      go_wp2_with (at_builtin; go_loud (refine wp_app2 (.tmp 18) (.tmp 19) X (.slice (some ⟨wr.heap.size, 0, none⟩) 1 1) [UInt8.ofNat s] HS.out.1 (by simp; omega) A nl cl l HS.out.2.1 (by have := HL.out.1; simp; omega) rfl rfl rfl rfl ?_; intro A4 n4 c4 w4 hi4 hG; have H4 := Lib.hid hG; clear hG))
      go_roundw
      case measure => simp [intOf]; omega
      exact ⟨q2, A4, n4, c4, UInt8.ofNat s :: l, by omega, rfl, rfl, H4.out.own, by have := HL.out.1; have := HL.out.2; simp; omega, HS.out.2.2.2, HS.out.2.2.1.trans H4.out.below⟩
end Go.Proofs.Ytgkhhinjdojbhaa
