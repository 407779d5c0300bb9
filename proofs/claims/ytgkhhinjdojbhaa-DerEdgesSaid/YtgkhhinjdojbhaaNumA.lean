/-
  Numbers: 'Len64'.
  Numbers: 'Bits'; the value of limbs.
  Numbers: 'Bytes'.
  Numbers plainly: bytes of a number.
  Numbers: 'FromBytes'.
-/
import Derived.Test.YtgkhhinjdojbhaaNum2
import Derived.Test.YtgkhhinjdojbhaaApp2
import Derived.StillTailTactics
namespace Go.Proofs.Ytgkhhinjdojbhaa
open Go.RowKit

def bl (n : Nat) : Nat := if n = 0 then 0 else Nat.log2 n + 1
def len8tab : ByteArray := { data := #[0, 1, 2, 2, 3, 3, 3, 3, 4, 4, 4, 4, 4, 4, 4, 4, 5, 5, 5, 5, 5, 5, 5, 5, 5, 5, 5, 5, 5, 5, 5, 5, 6, 6, 6, 6, 6, 6, 6, 6, 6, 6, 6, 6, 6, 6, 6, 6, 6, 6, 6, 6, 6, 6, 6, 6, 6, 6, 6, 6, 6, 6, 6, 6, 7, 7, 7, 7, 7, 7, 7, 7, 7, 7, 7, 7, 7, 7, 7, 7, 7, 7, 7, 7, 7, 7, 7, 7, 7, 7, 7, 7, 7, 7, 7, 7, 7, 7, 7, 7, 7, 7, 7, 7, 7, 7, 7, 7, 7, 7, 7, 7, 7, 7, 7, 7, 7, 7, 7, 7, 7, 7, 7, 7, 7, 7, 7, 7, 8, 8, 8, 8, 8, 8, 8, 8, 8, 8, 8, 8, 8, 8, 8, 8, 8, 8, 8, 8, 8, 8, 8, 8, 8, 8, 8, 8, 8, 8, 8, 8, 8, 8, 8, 8, 8, 8, 8, 8, 8, 8, 8, 8, 8, 8, 8, 8, 8, 8, 8, 8, 8, 8, 8, 8, 8, 8, 8, 8, 8, 8, 8, 8, 8, 8, 8, 8, 8, 8, 8, 8, 8, 8, 8, 8, 8, 8, 8, 8, 8, 8, 8, 8, 8, 8, 8, 8, 8, 8, 8, 8, 8, 8, 8, 8, 8, 8, 8, 8, 8, 8, 8, 8, 8, 8, 8, 8, 8, 8, 8, 8, 8, 8, 8, 8, 8, 8, 8, 8, 8, 8, 8, 8, 8, 8, 8, 8] }
theorem len8_size : len8tab.size = 256 := by decide +kernel
theorem len8_ok : ∀ i : Fin 256, wrap64 (len8tab[i.1]'(by rw [len8_size]; exact i.2)).toNat = bl i.1 := by decide +kernel
theorem bl_shift {n : Nat} (k : Nat) (h : 2 ^ k ≤ n) : bl n = k + bl (n / 2 ^ k) := by
  have hp : 0 < 2 ^ k := Nat.two_pow_pos k
  have hn : n ≠ 0 := by omega
  have hq : n / 2 ^ k ≠ 0 := by
    have := Nat.div_pos h hp; omega
  unfold bl
  rw [if_neg hn, if_neg hq]
  have : Nat.log2 n = k + Nat.log2 (n / 2 ^ k) := by
    rw [Nat.log2_eq_iff hn]
    have h1 := Nat.log2_self_le hq
    have h2 := Nat.lt_log2_self (n := n / 2 ^ k)
    constructor
    · rw [Nat.pow_add, Nat.mul_comm]; exact Nat.le_trans (Nat.mul_le_mul_right _ h1) (Nat.div_mul_le_self _ _)
    · rw [Nat.add_assoc, Nat.pow_add, Nat.mul_comm]; exact (Nat.div_lt_iff_lt_mul hp).1 h2
  omega
theorem bl_small : ∀ i : Fin 256, bl i.1 ≤ 8 := by decide +kernel
theorem w64 {n : Nat} (h : n ≤ 1000) : wrap64 ((n : Nat) : Int) = n := by unfold wrap64; omega
set_option maxRecDepth 100000 in
set_option maxHeartbeats 8000000 in
theorem len64_any (x : Nat) (hx : x < 18446744073709551616) (w : World) :
    Calls Try.prog 58 #[.int .u64 (x : Int)] w fun e w' => e = .returned (.int .i64 (bl x : Nat)) ∧ w = w' := by
  by_cases t0 : x < 4294967296
  · by_cases t1 : x < 65536
    · by_cases t2 : x < 256
      · have lt32 : ¬ (4294967296 : Int) ≤ (x : Int) := by omega
        have lt16 : ¬ (65536 : Int) ≤ (x : Int) := by omega
        have lt8 : ¬ (256 : Int) ≤ (x : Int) := by omega
        have hN : x < 256 := by omega
        go_enter Try.func58, Try.ntmps58
        go_wp2_with fail
        go_ret
        refine ⟨congrArg (fun z => Ending.returned (.int .i64 z)) ?_, rfl⟩
        have ht := len8_ok ⟨x, hN⟩
        have hs := bl_small ⟨x, hN⟩
        simp only at ht hs
        show wrap64 (wrap64 ((len8tab[x]'(by rw [len8_size]; exact hN)).toNat : Int)) = _
        rw [ht]
        exact w64 (by omega)
      · have lt32 : ¬ (4294967296 : Int) ≤ (x : Int) := by omega
        have lt16 : ¬ (65536 : Int) ≤ (x : Int) := by omega
        have ge8 : (256 : Int) ≤ (x : Int) := by omega
        have nn8 : (0 : Int) ≤ (x : Int) / 256 := by omega
        have hN : x / 256 < 256 := by omega
        have tn : ((x : Int) / 256).toNat = x / 256 := by omega
        have l256 : (x : Int) / 256 < 256 := by omega
        go_enter Try.func58, Try.ntmps58
        go_wp2_with fail
        go_ret
        refine ⟨congrArg (fun z => Ending.returned (.int .i64 z)) ?_, rfl⟩
        have ht := len8_ok ⟨x / 256, hN⟩
        have hs := bl_small ⟨x / 256, hN⟩
        simp only at ht hs
        show wrap64 (8 + wrap64 ((len8tab[x / 256]'(by rw [len8_size]; exact hN)).toNat : Int)) = _
        rw [ht]
        have sh8 : bl (x) = 8 + bl (x / 256) := bl_shift 8 (by show 256 ≤ x; omega)
        have hx2 : bl x = 8 + bl (x / 256) := by omega
        rw [hx2]
        have := w64 (n := 8 + bl (x / 256)) (by omega)
        exact this
    · by_cases t2 : x / 65536 < 256
      · have lt32 : ¬ (4294967296 : Int) ≤ (x : Int) := by omega
        have ge16 : (65536 : Int) ≤ (x : Int) := by omega
        have nn16 : (0 : Int) ≤ (x : Int) / 65536 := by omega
        have lt8 : ¬ (256 : Int) ≤ (x : Int) / 65536 := by omega
        have hN : x / 65536 < 256 := by omega
        have tn : ((x : Int) / 65536).toNat = x / 65536 := by omega
        have l256 : (x : Int) / 65536 < 256 := by omega
        go_enter Try.func58, Try.ntmps58
        go_wp2_with fail
        go_ret
        refine ⟨congrArg (fun z => Ending.returned (.int .i64 z)) ?_, rfl⟩
        have ht := len8_ok ⟨x / 65536, hN⟩
        have hs := bl_small ⟨x / 65536, hN⟩
        simp only at ht hs
        show wrap64 (16 + wrap64 ((len8tab[x / 65536]'(by rw [len8_size]; exact hN)).toNat : Int)) = _
        rw [ht]
        have sh16 : bl (x) = 16 + bl (x / 65536) := bl_shift 16 (by show 65536 ≤ x; omega)
        have hx2 : bl x = 16 + bl (x / 65536) := by omega
        rw [hx2]
        have := w64 (n := 16 + bl (x / 65536)) (by omega)
        exact this
      · have lt32 : ¬ (4294967296 : Int) ≤ (x : Int) := by omega
        have ge16 : (65536 : Int) ≤ (x : Int) := by omega
        have nn16 : (0 : Int) ≤ (x : Int) / 65536 := by omega
        have ge8 : (256 : Int) ≤ (x : Int) / 65536 := by omega
        have nn8 : (0 : Int) ≤ (x : Int) / 65536 / 256 := by omega
        have hN : x / 65536 / 256 < 256 := by omega
        have tn : ((x : Int) / 65536 / 256).toNat = x / 65536 / 256 := by omega
        have l256 : (x : Int) / 65536 / 256 < 256 := by omega
        go_enter Try.func58, Try.ntmps58
        go_wp2_with fail
        go_ret
        refine ⟨congrArg (fun z => Ending.returned (.int .i64 z)) ?_, rfl⟩
        have ht := len8_ok ⟨x / 65536 / 256, hN⟩
        have hs := bl_small ⟨x / 65536 / 256, hN⟩
        simp only at ht hs
        show wrap64 (24 + wrap64 ((len8tab[x / 65536 / 256]'(by rw [len8_size]; exact hN)).toNat : Int)) = _
        rw [ht]
        have sh16 : bl (x) = 16 + bl (x / 65536) := bl_shift 16 (by show 65536 ≤ x; omega)
        have sh8 : bl (x / 65536) = 8 + bl (x / 65536 / 256) := bl_shift 8 (by show 256 ≤ x / 65536; omega)
        have hx2 : bl x = 24 + bl (x / 65536 / 256) := by omega
        rw [hx2]
        have := w64 (n := 24 + bl (x / 65536 / 256)) (by omega)
        exact this
  · by_cases t1 : x / 4294967296 < 65536
    · by_cases t2 : x / 4294967296 < 256
      · have ge32 : (4294967296 : Int) ≤ (x : Int) := by omega
        have nn32 : (0 : Int) ≤ (x : Int) / 4294967296 := by omega
        have lt16 : ¬ (65536 : Int) ≤ (x : Int) / 4294967296 := by omega
        have lt8 : ¬ (256 : Int) ≤ (x : Int) / 4294967296 := by omega
        have hN : x / 4294967296 < 256 := by omega
        have tn : ((x : Int) / 4294967296).toNat = x / 4294967296 := by omega
        have l256 : (x : Int) / 4294967296 < 256 := by omega
        go_enter Try.func58, Try.ntmps58
        go_wp2_with fail
        go_ret
        refine ⟨congrArg (fun z => Ending.returned (.int .i64 z)) ?_, rfl⟩
        have ht := len8_ok ⟨x / 4294967296, hN⟩
        have hs := bl_small ⟨x / 4294967296, hN⟩
        simp only at ht hs
        show wrap64 (32 + wrap64 ((len8tab[x / 4294967296]'(by rw [len8_size]; exact hN)).toNat : Int)) = _
        rw [ht]
        have sh32 : bl (x) = 32 + bl (x / 4294967296) := bl_shift 32 (by show 4294967296 ≤ x; omega)
        have hx2 : bl x = 32 + bl (x / 4294967296) := by omega
        rw [hx2]
        have := w64 (n := 32 + bl (x / 4294967296)) (by omega)
        exact this
      · have ge32 : (4294967296 : Int) ≤ (x : Int) := by omega
        have nn32 : (0 : Int) ≤ (x : Int) / 4294967296 := by omega
        have lt16 : ¬ (65536 : Int) ≤ (x : Int) / 4294967296 := by omega
        have ge8 : (256 : Int) ≤ (x : Int) / 4294967296 := by omega
        have nn8 : (0 : Int) ≤ (x : Int) / 4294967296 / 256 := by omega
        have hN : x / 4294967296 / 256 < 256 := by omega
        have tn : ((x : Int) / 4294967296 / 256).toNat = x / 4294967296 / 256 := by omega
        have l256 : (x : Int) / 4294967296 / 256 < 256 := by omega
        go_enter Try.func58, Try.ntmps58
        go_wp2_with fail
        go_ret
        refine ⟨congrArg (fun z => Ending.returned (.int .i64 z)) ?_, rfl⟩
        have ht := len8_ok ⟨x / 4294967296 / 256, hN⟩
        have hs := bl_small ⟨x / 4294967296 / 256, hN⟩
        simp only at ht hs
        show wrap64 (40 + wrap64 ((len8tab[x / 4294967296 / 256]'(by rw [len8_size]; exact hN)).toNat : Int)) = _
        rw [ht]
        have sh32 : bl (x) = 32 + bl (x / 4294967296) := bl_shift 32 (by show 4294967296 ≤ x; omega)
        have sh8 : bl (x / 4294967296) = 8 + bl (x / 4294967296 / 256) := bl_shift 8 (by show 256 ≤ x / 4294967296; omega)
        have hx2 : bl x = 40 + bl (x / 4294967296 / 256) := by omega
        rw [hx2]
        have := w64 (n := 40 + bl (x / 4294967296 / 256)) (by omega)
        exact this
    · by_cases t2 : x / 4294967296 / 65536 < 256
      · have ge32 : (4294967296 : Int) ≤ (x : Int) := by omega
        have nn32 : (0 : Int) ≤ (x : Int) / 4294967296 := by omega
        have ge16 : (65536 : Int) ≤ (x : Int) / 4294967296 := by omega
        have nn16 : (0 : Int) ≤ (x : Int) / 4294967296 / 65536 := by omega
        have lt8 : ¬ (256 : Int) ≤ (x : Int) / 4294967296 / 65536 := by omega
        have hN : x / 4294967296 / 65536 < 256 := by omega
        have tn : ((x : Int) / 4294967296 / 65536).toNat = x / 4294967296 / 65536 := by omega
        have l256 : (x : Int) / 4294967296 / 65536 < 256 := by omega
        go_enter Try.func58, Try.ntmps58
        go_wp2_with fail
        go_ret
        refine ⟨congrArg (fun z => Ending.returned (.int .i64 z)) ?_, rfl⟩
        have ht := len8_ok ⟨x / 4294967296 / 65536, hN⟩
        have hs := bl_small ⟨x / 4294967296 / 65536, hN⟩
        simp only at ht hs
        show wrap64 (48 + wrap64 ((len8tab[x / 4294967296 / 65536]'(by rw [len8_size]; exact hN)).toNat : Int)) = _
        rw [ht]
        have sh32 : bl (x) = 32 + bl (x / 4294967296) := bl_shift 32 (by show 4294967296 ≤ x; omega)
        have sh16 : bl (x / 4294967296) = 16 + bl (x / 4294967296 / 65536) := bl_shift 16 (by show 65536 ≤ x / 4294967296; omega)
        have hx2 : bl x = 48 + bl (x / 4294967296 / 65536) := by omega
        rw [hx2]
        have := w64 (n := 48 + bl (x / 4294967296 / 65536)) (by omega)
        exact this
      · have ge32 : (4294967296 : Int) ≤ (x : Int) := by omega
        have nn32 : (0 : Int) ≤ (x : Int) / 4294967296 := by omega
        have ge16 : (65536 : Int) ≤ (x : Int) / 4294967296 := by omega
        have nn16 : (0 : Int) ≤ (x : Int) / 4294967296 / 65536 := by omega
        have ge8 : (256 : Int) ≤ (x : Int) / 4294967296 / 65536 := by omega
        have nn8 : (0 : Int) ≤ (x : Int) / 4294967296 / 65536 / 256 := by omega
        have hN : x / 4294967296 / 65536 / 256 < 256 := by omega
        have tn : ((x : Int) / 4294967296 / 65536 / 256).toNat = x / 4294967296 / 65536 / 256 := by omega
        have l256 : (x : Int) / 4294967296 / 65536 / 256 < 256 := by omega
        go_enter Try.func58, Try.ntmps58
        go_wp2_with fail
        go_ret
        refine ⟨congrArg (fun z => Ending.returned (.int .i64 z)) ?_, rfl⟩
        have ht := len8_ok ⟨x / 4294967296 / 65536 / 256, hN⟩
        have hs := bl_small ⟨x / 4294967296 / 65536 / 256, hN⟩
        simp only at ht hs
        show wrap64 (56 + wrap64 ((len8tab[x / 4294967296 / 65536 / 256]'(by rw [len8_size]; exact hN)).toNat : Int)) = _
        rw [ht]
        have sh32 : bl (x) = 32 + bl (x / 4294967296) := bl_shift 32 (by show 4294967296 ≤ x; omega)
        have sh16 : bl (x / 4294967296) = 16 + bl (x / 4294967296 / 65536) := bl_shift 16 (by show 65536 ≤ x / 4294967296; omega)
        have sh8 : bl (x / 4294967296 / 65536) = 8 + bl (x / 4294967296 / 65536 / 256) := bl_shift 8 (by show 256 ≤ x / 4294967296 / 65536; omega)
        have hx2 : bl x = 56 + bl (x / 4294967296 / 65536 / 256) := by omega
        rw [hx2]
        have := w64 (n := 56 + bl (x / 4294967296 / 65536 / 256)) (by omega)
        exact this
end Go.Proofs.Ytgkhhinjdojbhaa
namespace Go.Proofs.Ytgkhhinjdojbhaa
open Go.RowKit

/-- The value of limbs, the lowest first. -/
def valL : List UInt64 → Nat | [] => 0 | x :: l => x.toNat + 18446744073709551616 * valL l
theorem valL_append (a b : List UInt64) : valL (a ++ b) = valL a + 18446744073709551616 ^ a.length * valL b := by
  induction a with
  | nil => simp [valL]
  | cons x a ih =>
    rw [List.cons_append, valL, valL, ih, List.length_cons, Nat.pow_succ, Nat.mul_add, ← Nat.add_assoc, ← Nat.mul_assoc, Nat.mul_comm 18446744073709551616 (18446744073709551616 ^ a.length)]
theorem valL_lt (l : List UInt64) : valL l < 18446744073709551616 ^ l.length := by
  induction l with
  | nil => simp [valL]
  | cons x l ih =>
    have hx := x.toNat_lt
    rw [valL, List.length_cons, Nat.pow_succ]
    have : 18446744073709551616 * (valL l + 1) ≤ 18446744073709551616 * 18446744073709551616 ^ l.length := Nat.mul_le_mul_left _ ih
    rw [Nat.mul_add] at this
    rw [Nat.mul_comm (18446744073709551616 ^ l.length)]
    omega
theorem trim_ind {P : List UInt64 → Prop} (h0 : P []) (h1 : ∀ l x, P l → P (l ++ [x])) (l : List UInt64) : P l := by
  have : ∀ l : List UInt64, P l.reverse := by
    intro l
    induction l with
    | nil => exact h0
    | cons x l ih => rw [List.reverse_cons]; exact h1 _ _ ih
  have := this l.reverse
  rwa [List.reverse_reverse] at this
theorem valL_trim (l : List UInt64) : valL (trimL l) = valL l := by
  refine trim_ind (P := fun l => valL (trimL l) = valL l) rfl ?_ l
  intro l x ih
  by_cases h : x = 0
  · subst h; rw [trimL_snoc_zero, ih, valL_append]; simp [valL]
  · rw [trimL_snoc h]
theorem trimL_last (l : List UInt64) : trimL l = [] ∨ ∃ t x, trimL l = t ++ [x] ∧ x ≠ 0 := by
  refine trim_ind (P := fun l => trimL l = [] ∨ ∃ t x, trimL l = t ++ [x] ∧ x ≠ 0) (.inl rfl) ?_ l
  intro l x ih
  by_cases h : x = 0
  · subst h; rw [trimL_snoc_zero]; exact ih
  · rw [trimL_snoc h]; exact .inr ⟨l, x, rfl, h⟩
theorem bl_val {t : List UInt64} {x : UInt64} (h : x ≠ 0) : bl (valL (t ++ [x])) = 64 * t.length + bl x.toNat := by
  have hx : 1 ≤ x.toNat := by
    rcases Nat.eq_zero_or_pos x.toNat with e | e
    · exact absurd (UInt64.toNat_inj.1 (by rw [e]; rfl)) h
    · exact e
  have hv := valL_lt t
  have hp : (18446744073709551616 : Nat) ^ t.length = 2 ^ (64 * t.length) := by rw [Nat.pow_mul]
  have e : valL (t ++ [x]) = valL t + 2 ^ (64 * t.length) * x.toNat := by rw [valL_append, hp]; simp [valL]
  rw [hp] at hv
  have hpp : 0 < 2 ^ (64 * t.length) := Nat.two_pow_pos _
  have hge : 2 ^ (64 * t.length) ≤ valL (t ++ [x]) := by
    rw [e]
    have : 2 ^ (64 * t.length) * 1 ≤ 2 ^ (64 * t.length) * x.toNat := Nat.mul_le_mul_left _ hx
    omega
  rw [bl_shift _ hge, e, Nat.add_mul_div_left _ _ hpp, Nat.div_eq_of_lt hv, Nat.zero_add]
set_option maxRecDepth 100000 in
set_option maxHeartbeats 2000000 in
theorem bits_any (A : Option Addr) (m c : Nat) (l : List UInt64) (w : World) (h : RdC Try.eU w A m l) (hc : m ≤ c ∧ c ≤ maxLen) (hnil : A = none → c = 0) (hm : m ≤ 1000000) :
    Calls Try.prog 45 #[.slice A m c] w fun e w' => e = .returned (.int .i64 (bl (valL l) : Nat)) ∧ w = w' := by
  have ht := trim_any A m c l w h hc hnil
  obtain ⟨hle, hte⟩ := trimL_take l
  have hml := h.1
  have hrd : RdC Try.eU w A (trimL l).length (trimL l) := by have := h.take (trimL l).length (by omega); rwa [← hte] at this
  have hv := valL_trim l
  have hle2 : (trimL l).length ≤ 1000000 := by omega
  obtain ⟨t, htt⟩ : ∃ t, trimL l = t := ⟨_, rfl⟩
  have hl := trimL_last l
  rw [htt] at ht hrd hv hle2 hl
  rw [← hv]
  have HT := Lib.hid hrd
  clear hrd hle hte h htt hv
  go_enter Try.func45, Try.ntmps45
  go_wp2_with fail
  refine ht.mono ?_
  rintro e w1 ⟨rfl, rfl⟩
  rcases hl with rfl | ⟨s, x, rfl, hx⟩
  · clear ht
    go_wp2_with fail
    go_ret
    exact ⟨by rfl, rfl⟩
  · rw [List.length_append, List.length_singleton] at *
    obtain ⟨g, off, hAe, cx⟩ := limb_at HT.out (j := s.length) (x := x) (by simp)
    subst hAe
    have hxl := x.toNat_lt
    have hlen := len64_any x.toNat hxl w
    have hbv := bl_val (t := s) hx
    have hble : bl x.toNat ≤ 64 := by
      unfold bl
      split
      · omega
      · rename_i h0
        have := (Nat.log2_lt h0 (k := 64)).2 (by omega)
        omega
    have n1 : ¬ (((s.length + 1 : Nat) : Int) = 0) := by omega
    have n1d : decide (((s.length + 1 : Nat) : Int) = 0) = false := decide_eq_false n1
    have n2 : ((s.length + 1 : Nat) : Int) - 1 = (s.length : Int) := by omega
    obtain ⟨bx, hbx⟩ : ∃ bx, bl x.toNat = bx := ⟨_, rfl⟩
    rw [hbx] at hlen hbv hble
    have HBV := Lib.hid hbv
    clear hbv ht hx
    go_wp2_with fail
    refine hlen.mono ?_
    rintro e w2 ⟨rfl, rfl⟩
    go_wp2_with fail
    go_ret
    refine ⟨congrArg (fun z => Ending.returned (.int .i64 z)) ?_, rfl⟩
    rw [HBV.out]
    show 64 * (s.length : Int) + (bx : Int) = _
    omega
end Go.Proofs.Ytgkhhinjdojbhaa
namespace Go.Proofs.Ytgkhhinjdojbhaa
open Go.RowKit

/-- The byte at place k (the lowest: 0) of a number. -/
def byteAt (v k : Nat) : UInt8 := UInt8.ofNat (v / 256 ^ k % 256)
/-- A number in n bytes, the highest first. -/
def beN (n v : Nat) : List UInt8 := (List.range n).map fun j => byteAt v (n - 1 - j)
def rowB (n v i : Nat) : List UInt8 := (List.range n).map fun j => if j < i then byteAt v (n - 1 - j) else 0
theorem rowB_zero (n v : Nat) : rowB n v 0 = zs n := by
  unfold rowB zs
  rw [show (fun j => if j < 0 then byteAt v (n - 1 - j) else 0) = fun _ => (0 : UInt8) by funext j; simp, List.map_const', List.length_range]
theorem rowB_full (n v : Nat) : rowB n v n = beN n v := by
  unfold rowB beN
  refine List.map_congr_left (fun j hj => ?_)
  rw [if_pos (List.mem_range.1 hj)]
theorem rowB_len (n v i : Nat) : (rowB n v i).length = n := by unfold rowB; simp
theorem rowB_step {n v i : Nat} (h : i < n) : rowB n v (i + 1) = (rowB n v i).set i (byteAt v (n - 1 - i)) := by
  refine List.ext_getElem? (fun j => ?_)
  unfold rowB
  rw [List.getElem?_set]
  simp only [List.getElem?_map, List.length_map, List.length_range, List.getElem?_range]
  by_cases hj : j < n
  · rw [List.getElem?_range hj]
    simp only [Option.map_some]
    by_cases e : i = j
    · subst e; rw [if_pos rfl, if_pos h, if_pos (by omega)]
    · rw [if_neg e]
      by_cases h1 : j < i
      · rw [if_pos h1, if_pos (by omega)]
      · rw [if_neg h1, if_neg (by omega)]
  · rw [List.getElem?_eq_none (by simpa using hj)]
    by_cases e : i = j
    · omega
    · rw [if_neg e]; rfl
theorem rowB_set0 {n v i : Nat} (h : i < n) : (rowB n v i).set i 0 = rowB n v i := by
  refine List.ext_getElem? (fun j => ?_)
  rw [List.getElem?_set]
  by_cases e : i = j
  · subst e
    rw [if_pos rfl, if_pos (by rw [rowB_len]; exact h)]
    unfold rowB
    rw [List.getElem?_map, List.getElem?_range h]
    simp
  · rw [if_neg e]
theorem valL_get : ∀ {l : List UInt64} {j : Nat} {x : UInt64}, l[j]? = some x → valL l / 2 ^ (64 * j) % 2 ^ 64 = x.toNat
  | [], j, x, h => by simp at h
  | y :: l, 0, x, h => by
    simp at h; subst h
    have hy := y.toNat_lt
    rw [valL]
    simp only [Nat.mul_zero, Nat.pow_zero, Nat.div_one]
    omega
  | y :: l, j + 1, x, h => by
    have ih := valL_get (l := l) (j := j) (x := x) (by simpa using h)
    have hy := y.toNat_lt
    rw [valL, show 64 * (j + 1) = 64 + 64 * j by omega, Nat.pow_add, ← Nat.div_div_eq_div_mul]
    rw [show (y.toNat + 18446744073709551616 * valL l) / 2 ^ 64 = valL l by omega]
    exact ih
theorem mod_div_mod (y r : Nat) (hr : r < 8) : y % 2 ^ 64 / 2 ^ (r * 8) % 256 = y / 2 ^ (r * 8) % 256 := by
  have e : (2 : Nat) ^ 64 = 2 ^ (r * 8) * (2 ^ (64 - r * 8)) := by rw [← Nat.pow_add]; congr 1; omega
  rw [e, Nat.mod_mul_right_div_self, Nat.mod_mod_of_dvd]
  exact Nat.pow_dvd_pow 2 (show 8 ≤ 64 - r * 8 by omega)
theorem byteAt_limb {l : List UInt64} {k : Nat} {x : UInt64} (h : l[k / 8]? = some x) : byteAt (valL l) k = UInt8.ofNat (x.toNat / 2 ^ (k % 8 * 8) % 256) := by
  unfold byteAt
  rw [← valL_get h, mod_div_mod _ _ (by omega)]
  congr 2
  rw [show (256 : Nat) ^ k = 2 ^ (64 * (k / 8)) * 2 ^ (k % 8 * 8) by rw [← Nat.pow_add, show (256 : Nat) = 2 ^ 8 from rfl, ← Nat.pow_mul]; congr 1; omega, Nat.div_div_eq_div_mul]
theorem byteAt_high {l : List UInt64} {k : Nat} (h : l.length ≤ k / 8) : byteAt (valL l) k = 0 := by
  unfold byteAt
  have h1 := valL_lt l
  have h2 : (18446744073709551616 : Nat) ^ l.length ≤ 256 ^ k := by
    rw [show (18446744073709551616 : Nat) = 256 ^ 8 from rfl, ← Nat.pow_mul]
    exact Nat.pow_le_pow_right (by omega) (by omega)
  rw [Nat.div_eq_of_lt (by omega)]; rfl
set_option maxRecDepth 100000 in
set_option maxHeartbeats 4000000 in
theorem bytes_any (A : Option Addr) (m c : Nat) (l : List UInt64) (n : Nat) (w : World) (h : RdC Try.eU w A m l) (hc : m ≤ c ∧ c ≤ maxLen) (hnil : A = none → c = 0) (hm : m ≤ 1000000) (hn : n ≤ 65536) (hbits : bl (valL l) ≤ 8 * n) :
    Calls Try.prog 44 #[.slice A m c, .int .i64 (n : Int)] w fun e w' => ∃ A1 n1 c1, e = .returned (.tuple #[.slice A1 n1 c1, .bool true]) ∧ Own w' w.heap.size (.slice A1 n1 c1) (beN n (valL l)) ∧ Below w.heap.size w w' := by
  obtain ⟨X, hX⟩ : ∃ X, w.heap.size = X := ⟨_, rfl⟩
  have hb := bits_any A m c l w h hc hnil hm
  have hmk := Try.prog_make n (by omega) w
  obtain ⟨w1, hw1⟩ : ∃ w1, w.alloc (.cells (madeCells #[.int .u8 0] n) 5) = w1 := ⟨_, rfl⟩
  have hO := Own.made w n (by unfold maxLen; omega)
  have hb1 : Below w.heap.size w w1 := by rw [← hw1]; exact (Below.refl _ _).alloc (Nat.le_refl _) _
  rw [hw1, hX] at hO hmk
  rw [← rowB_zero n (valL l)] at hO
  have hml := h.1
  obtain ⟨bv, hbv⟩ : ∃ bv, bl (valL l) = bv := ⟨_, rfl⟩
  rw [hbv] at hb hbits
  have H1 := Lib.hid (And.intro h (And.intro hO (And.intro hb1 hX)))
  clear h hO hb1
  have t1 : ¬ ((n : Int) < 0) := by omega
  have t1d : decide ((n : Int) < 0) = false := decide_eq_false t1
  have t2 : ¬ (65536 : Int) < n := by omega
  have t2d : decide ((65536 : Int) < (n : Int)) = false := decide_eq_false t2
  have t3 : ¬ (8 * (n : Int) < bv) := by omega
  have t3d : decide (8 * (n : Int) < (bv : Int)) = false := decide_eq_false t3
  go_enter Try.func44, Try.ntmps44
  go_wp2_with fail
  refine hb.mono ?_
  rintro e w' ⟨rfl, rfl⟩
  clear hb
  go_wp2_with fail
  try rw [hw1]
  try rw [hX]
  go_wp2_with fail
  go_loopw [26] (fun kk wr => ∃ i : Nat, i ≤ n ∧ kk = .int .i64 (i : Int) ∧ Own wr X (.slice (some ⟨X, 0, none⟩) n n) (rowB n (valL l) i) ∧ Turn [X] w1 wr) (fun kk _ => n - (intOf kk).toNat)
  case atStart => exact ⟨0, by omega, rfl, H1.out.2.1, Turn.refl _ _⟩
  case round =>
    obtain ⟨i, hi, rfl, hO, hT⟩ := hrel
    have hbw : Below X w wr := by have := below_turn (H1.out.2.2.1) hT (fun t ht => by simp at ht; have := H1.out.2.2.2; omega) H1.out.2.2.1.size; rwa [H1.out.2.2.2] at this
    have hR : RdC Try.eU wr A m l := H1.out.1.below (by rw [H1.out.2.2.2]; exact hbw)
    by_cases hlt : i < n
    · have hlti : (i : Int) < n := by omega
      have hltd : decide ((i : Int) < (n : Int)) = true := decide_eq_true hlti
      have hi0 : ¬ ((i : Int) < 0) := by omega
      obtain ⟨k, hk⟩ : ∃ k, n - 1 - i = k := ⟨_, rfl⟩
      have hk1 : (n : Int) - 1 - i = k := by omega
      obtain ⟨q, hqq⟩ : ∃ q, k / 8 = q := ⟨_, rfl⟩
      obtain ⟨r, hrr⟩ : ∃ r, k % 8 = r := ⟨_, rfl⟩
      have hk2 : (k : Int).tdiv 8 = (q : Int) := by rw [Int.tdiv_eq_ediv_of_nonneg (by omega)]; omega
      have hk3 : (k : Int).tmod 8 = (r : Int) := by rw [Int.tmod_eq_emod_of_nonneg (by omega)]; omega
      have hr8 : r < 8 := by omega
      have hqb : (q : Int) ≤ 8192 := by omega
      have hst := rowB_step (v := valL l) hlt
      rw [hk] at hst
      by_cases hq : q < m
      · have hqi : (q : Int) < m := by omega
        have hqd : decide ((q : Int) < (m : Int)) = true := decide_eq_true hqi
        have hq0 : ¬ ((q : Int) < 0) := by omega
        obtain ⟨x, hx⟩ : ∃ x, l[q]? = some x := ⟨_, List.getElem?_eq_getElem (by omega)⟩
        obtain ⟨g, off, hAe, cx⟩ := limb_at hR hx
        subst hAe
        have hby := byteAt_limb (k := k) (by rw [hqq]; exact hx)
        rw [hrr] at hby
        have hxl := x.toNat_lt
        have fr := hO.frozen i
        obtain ⟨z, cz⟩ : ∃ z, wr.cell? ⟨X, i, none⟩ = some z := ⟨_, by have := hO.at_.cell (k := i) (by rw [rowB_len]; exact hlt); rw [Nat.zero_add] at this; exact this⟩
        have HS := Lib.hid (And.intro hO (And.intro hT (And.intro hst hby)))
        clear hO hT hst hby hx hbw hR hqq hrr
        go_wp2_with fail
        go_roundw
        case measure => simp [intOf]; omega
        have hB : B (byteAt (valL l) k) = .int .u8 ((x.toNat : Int) / 2 ^ (r * 8) % 256) := by rw [HS.out.2.2.2]; unfold B; rw [byte_nat]; simp
        have hO2 := HS.out.1.set_ i (byteAt (valL l) k) hlt
        rw [← HS.out.2.2.1, hB] at hO2
        exact ⟨i + 1, by omega, by simp, hO2, HS.out.2.1.setCell (.inl (by simp)) _⟩
      · have hqi : ¬ (q : Int) < m := by omega
        have hqd : decide ((q : Int) < (m : Int)) = false := decide_eq_false hqi
        have hby := byteAt_high (l := l) (k := k) (by omega)
        have HS := Lib.hid (And.intro hO (And.intro hT (And.intro hst hby)))
        clear hO hT hst hby hbw hR hqq hrr
        go_wp2_with fail
        go_roundw
        case measure => simp [intOf]; omega
        refine ⟨i + 1, by omega, by simp, ?_, HS.out.2.1⟩
        rw [HS.out.2.2.1, HS.out.2.2.2, rowB_set0 hlt]
        exact HS.out.1
    · obtain rfl : i = n := by omega
      have hlti : ¬ (i : Int) < i := by omega
      rw [rowB_full] at hO
      have HS := Lib.hid (And.intro hO hbw)
      clear hO hT hbw hR
      go_wp2_with fail
      go_ret2
      exact ⟨_, _, _, rfl, HS.out.1, HS.out.2⟩
end Go.Proofs.Ytgkhhinjdojbhaa
namespace Go.Proofs.Ytgkhhinjdojbhaa

theorem byteAt_succ (v e : Nat) : byteAt v (e + 1) = byteAt (v / 256) e := by
  unfold byteAt
  rw [Nat.pow_succ, Nat.mul_comm, Nat.div_div_eq_div_mul]
theorem byteAt_zero (v : Nat) : byteAt v 0 = UInt8.ofNat (v % 256) := by unfold byteAt; rw [Nat.pow_zero, Nat.div_one]
theorem beN_zero (v : Nat) : beN 0 v = [] := rfl
theorem beN_succ (k v : Nat) : beN (k + 1) v = beN k (v / 256) ++ [UInt8.ofNat (v % 256)] := by
  unfold beN
  rw [List.range_succ, List.map_append]
  congr 1
  · refine List.map_congr_left (fun j hj => ?_)
    have hj := List.mem_range.1 hj
    rw [show k + 1 - 1 - j = (k - 1 - j) + 1 by omega, byteAt_succ]
  · simp [byteAt_zero]
theorem beN_len (n v : Nat) : (beN n v).length = n := by unfold beN; simp
theorem beVal_beN : ∀ (n v : Nat), v < 256 ^ n → beVal (beN n v) = v
  | 0, v, h => by simp at h; subst h; rfl
  | n + 1, v, h => by
    rw [beN_succ, beVal_snoc, beVal_beN n (v / 256) (by rw [Nat.pow_succ] at h; omega), byte_nat]; omega
theorem bl_zero : bl 0 = 0 := rfl
theorem bl_pos {n : Nat} (h : n ≠ 0) : 1 ≤ bl n := by unfold bl; rw [if_neg h]; omega
theorem bl_lt (n : Nat) : n < 2 ^ bl n := by
  unfold bl
  split
  · omega
  · exact Nat.lt_log2_self
theorem bl_le {n k : Nat} (h : n < 2 ^ k) : bl n ≤ k := by
  unfold bl
  split
  · omega
  · rename_i h0
    have := (Nat.log2_lt h0).2 h
    omega
theorem beN_min (v : Nat) : beN ((bl v + 7) / 8) v = beMin v := by
  induction v using Nat.strongRecOn with
  | _ v ih =>
    by_cases h : v = 0
    · subst h; rw [beMin_zero]; rfl
    · have e : (bl v + 7) / 8 = (bl (v / 256) + 7) / 8 + 1 := by
        by_cases h2 : v < 256
        · rw [show v / 256 = 0 by omega, bl_zero]
          have := bl_pos h
          have := bl_le (n := v) (k := 8) (by omega)
          omega
        · have := bl_shift (n := v) 8 (by omega)
          rw [show (2 : Nat) ^ 8 = 256 from rfl] at this
          omega
      rw [e, beN_succ, ih _ (by omega), ← beMin_pos h]
end Go.Proofs.Ytgkhhinjdojbhaa
namespace Go.Proofs.Ytgkhhinjdojbhaa
open Go.RowKit

/-- A number in N limbs. -/
def limbsN (N v : Nat) : List UInt64 := (List.range N).map fun q => UInt64.ofNat (v / 2 ^ (64 * q))
theorem limbsN_len (N v : Nat) : (limbsN N v).length = N := by unfold limbsN; simp
theorem limbsN_get {N v q : Nat} (h : q < N) : (limbsN N v)[q]? = some (UInt64.ofNat (v / 2 ^ (64 * q))) := by
  unfold limbsN; rw [List.getElem?_map, List.getElem?_range h]; rfl
theorem u64_mul (a b : Nat) : UInt64.ofNat (a + 2 ^ 64 * b) = UInt64.ofNat a := by
  apply UInt64.toNat_inj.1
  rw [UInt64.toNat_ofNat', UInt64.toNat_ofNat', Nat.add_mul_mod_self_left]
theorem u64_mod (a b : Nat) : UInt64.ofNat (a + b) = UInt64.ofNat (a % 2 ^ 64 + b) := by
  apply UInt64.toNat_inj.1
  rw [UInt64.toNat_ofNat', UInt64.toNat_ofNat', Nat.mod_add_mod]
theorem limbsN_step {N v k c : Nat} (hv : v % 256 ^ (k + 1) = 0) (hc : c < 256) (hq : k / 8 < N) :
    limbsN N (v + c * 256 ^ k) = (limbsN N v).set (k / 8) (UInt64.ofNat (v / 2 ^ (64 * (k / 8)) % 2 ^ 64 + c * 2 ^ (k % 8 * 8))) := by
  obtain ⟨t, rfl⟩ : ∃ t, v = 256 ^ (k + 1) * t := ⟨v / 256 ^ (k + 1), by have := Nat.div_add_mod v (256 ^ (k + 1)); omega⟩
  have e256 : ∀ n, (256 : Nat) ^ n = 2 ^ (8 * n) := fun n => by rw [Nat.pow_mul]
  refine List.ext_getElem? (fun j => ?_)
  rw [List.getElem?_set, limbsN_len]
  by_cases hj : j < N
  · rw [limbsN_get hj]
    by_cases e : k / 8 = j
    · subst e
      rw [if_pos rfl, if_pos hq, ← u64_mod]
      congr 2
      rw [e256 k, show 8 * k = k % 8 * 8 + 64 * (k / 8) by omega, Nat.pow_add 2 (k % 8 * 8), ← Nat.mul_assoc c]
      exact Nat.add_mul_div_right _ _ (Nat.pow_pos (by omega))
    · rw [if_neg e, limbsN_get hj]
      congr 1
      by_cases hlt : k / 8 < j
      · congr 1
        have hlt2 : c * 256 ^ k < 256 ^ (k + 1) := by
          rw [Nat.pow_succ, Nat.mul_comm]
          exact Nat.mul_lt_mul_of_pos_left hc (Nat.pow_pos (by omega))
        obtain ⟨s, hs⟩ : ∃ s, 64 * j = 8 * (k + 1) + s := ⟨64 * j - 8 * (k + 1), by omega⟩
        rw [hs, Nat.pow_add 2, ← e256 (k + 1), ← Nat.div_div_eq_div_mul, ← Nat.div_div_eq_div_mul]
        congr 1
        have hpos : 0 < 256 ^ (k + 1) := Nat.pow_pos (by omega)
        rw [Nat.mul_div_cancel_left _ hpos, Nat.mul_add_div hpos, Nat.div_eq_of_lt hlt2, Nat.add_zero]
      · obtain ⟨s, hs⟩ : ∃ s, 8 * k = 64 * j + (64 + s) := ⟨8 * k - 64 * j - 64, by omega⟩
        have hpos : 0 < 2 ^ (64 * j) := Nat.pow_pos (by omega)
        have e1 : (256 ^ (k + 1) * t + c * 256 ^ k) / 2 ^ (64 * j) = 256 ^ (k + 1) * t / 2 ^ (64 * j) + 2 ^ 64 * (c * 2 ^ s) := by
          rw [e256 k, hs, Nat.pow_add 2 (64 * j), show c * (2 ^ (64 * j) * 2 ^ (64 + s)) = 2 ^ (64 * j) * (2 ^ 64 * (c * 2 ^ s)) by
            rw [Nat.pow_add, Nat.mul_left_comm, Nat.mul_left_comm c]]
          exact Nat.add_mul_div_left _ _ hpos
        rw [e1, u64_mul]
  · rw [List.getElem?_eq_none (by rw [limbsN_len]; omega), if_neg (by omega), List.getElem?_eq_none (by rw [limbsN_len]; omega)]
theorem limbsN_zero (N : Nat) : limbsN N 0 = List.replicate N 0 := by
  unfold limbsN
  rw [show (fun q => UInt64.ofNat (0 / 2 ^ (64 * q))) = fun _ => (0 : UInt64) by funext q; rw [Nat.zero_div]; rfl, List.map_const', List.length_range]
theorem limbsN_succ (N v : Nat) : limbsN (N + 1) v = UInt64.ofNat v :: limbsN N (v / 2 ^ 64) := by
  unfold limbsN
  rw [List.range_succ_eq_map, List.map_cons, List.map_map]
  congr 1
  · rw [Nat.mul_zero, Nat.pow_zero, Nat.div_one]
  · refine List.map_congr_left (fun q _ => ?_)
    show UInt64.ofNat (v / 2 ^ (64 * (q + 1))) = _
    rw [Nat.mul_add, Nat.mul_one, Nat.add_comm, Nat.pow_add, Nat.div_div_eq_div_mul]
theorem valL_limbsN : ∀ (N v : Nat), v < 2 ^ (64 * N) → valL (limbsN N v) = v
  | 0, v, h => by simp at h; subst h; rfl
  | N + 1, v, h => by
    rw [limbsN_succ, valL, valL_limbsN N (v / 2 ^ 64) (by rw [Nat.mul_add, Nat.mul_one, Nat.pow_add] at h; rw [Nat.div_lt_iff_lt_mul (by decide)]; exact h), UInt64.toNat_ofNat']
    omega
/-- What stands behind i bytes. -/
def vAt (b : List UInt8) (i : Nat) : Nat := beVal (b.take i) * 256 ^ (b.length - i)
theorem vAt_zero (b : List UInt8) : vAt b 0 = 0 := by unfold vAt; simp [beVal]
theorem vAt_full (b : List UInt8) : vAt b b.length = beVal b := by unfold vAt; simp
theorem vAt_step {b : List UInt8} {i k : Nat} {x : UInt8} (h : b[i]? = some x) (hk : b.length - 1 - i = k) : vAt b (i + 1) = vAt b i + x.toNat * 256 ^ k ∧ vAt b i % 256 ^ (k + 1) = 0 := by
  have hi : i < b.length := (List.getElem?_eq_some_iff.1 h).1
  unfold vAt
  have e : b.length - i = k + 1 := by omega
  have e2 : b.length - (i + 1) = k := by omega
  rw [e, e2]
  refine ⟨?_, Nat.mul_mod_left _ _⟩
  rw [List.take_add_one, h, Option.toList_some, beVal_snoc, Nat.add_mul, Nat.pow_succ, Nat.mul_assoc, Nat.mul_comm 256]
theorem vhigh_mod {v k : Nat} (hv : v % 256 ^ (k + 1) = 0) : v / 2 ^ (64 * (k / 8)) % 2 ^ 64 % 2 ^ (8 * (k % 8 + 1)) = 0 := by
  rw [Nat.mod_mod_of_dvd _ (Nat.pow_dvd_pow 2 (by omega))]
  obtain ⟨t, rfl⟩ : ∃ t, v = 256 ^ (k + 1) * t := ⟨v / 256 ^ (k + 1), by have := Nat.div_add_mod v (256 ^ (k + 1)); omega⟩
  have e : (256 : Nat) ^ (k + 1) = 2 ^ (64 * (k / 8)) * 2 ^ (8 * (k % 8 + 1)) := by
    rw [← Nat.pow_add 2, show 64 * (k / 8) + 8 * (k % 8 + 1) = 8 * (k + 1) by omega, Nat.pow_mul]
  rw [e, Nat.mul_assoc, Nat.mul_div_cancel_left _ (Nat.pow_pos (by omega))]
  exact Nat.mul_mod_right _ _
theorem flatU : ∀ l : List UInt64, List.flatMap Ucells l = l.map fun x => .int .u64 (x.toNat : Int)
  | [] => rfl
  | x :: l => by rw [List.flatMap_cons, flatU l]; rfl
theorem make_nat (n : Nat) (hn : n ≤ 281474976710) (w : World) : (Instr.makeSlice 38 (.int .i64 (n : Int)) (.int .i64 (n : Int))).run Try.prog w = .ok (.slice (some ⟨w.heap.size, 0, none⟩) n n) (w.alloc (.cells (madeCells #[.int .u64 0] n) 58)) := by
  obtain ⟨i0, hi, hz0, hz1, hz2⟩ := info_parts (show (Try.prog.info? 58).map (fun i => (i.zero, i.size, i.bytes)) = some (some (.int .u64 0), 1, 8) by kernel_rfl)
  have hr := run_make (P := Try.prog) w 38 58 i0 (.int .u64 0) Try.underlying38 hi hz0 .i64 .i64 n n (by omega) (by omega) (by rw [hz2]; omega) (by omega)
  simp only [Int.toNat_natCast, hz1, Nat.mul_one] at hr
  exact hr
theorem or_u64 (a c r : Nat) (hr : r < 8) (hc : c < 256) (ha : a < 2 ^ 64) (h0 : a % 2 ^ (8 * (r + 1)) = 0) : bits .or .u64 (a : Int) ((c : Int) * 2 ^ (r * 8)) = (((a + c * 2 ^ (r * 8)) : Nat) : Int) ∧ a + c * 2 ^ (r * 8) < 2 ^ 64 := by
  obtain ⟨t, rfl⟩ : ∃ t, a = 2 ^ (8 * (r + 1)) * t := ⟨a / 2 ^ (8 * (r + 1)), by have := Nat.div_add_mod a (2 ^ (8 * (r + 1))); omega⟩
  have hlt : c * 2 ^ (r * 8) < 2 ^ (8 * (r + 1)) := by
    rw [show 8 * (r + 1) = 8 + r * 8 by omega, Nat.pow_add]
    exact Nat.mul_lt_mul_of_pos_right hc (Nat.pow_pos (by omega))
  have hor := Nat.two_pow_add_eq_or_of_lt hlt t
  have hle : 2 ^ (8 * (r + 1)) ≤ 2 ^ 64 := Nat.pow_le_pow_right (by omega) (by omega)
  have hsum : 2 ^ (8 * (r + 1)) * t + c * 2 ^ (r * 8) < 2 ^ 64 := by rw [hor]; exact Nat.or_lt_two_pow ha (Nat.lt_of_lt_of_le hlt hle)
  refine ⟨?_, hsum⟩
  have e2 : ((c : Int) * 2 ^ (r * 8)) = ((c * 2 ^ (r * 8) : Nat) : Int) := by simp
  rw [e2, hor]
  have hb : c * 2 ^ (r * 8) < 2 ^ 64 := Nat.lt_of_lt_of_le hlt hle
  have h1 : (BitVec.ofInt 64 ((2 ^ (8 * (r + 1)) * t : Nat) : Int)).toNat = 2 ^ (8 * (r + 1)) * t := by
    rw [BitVec.ofInt_natCast, BitVec.toNat_ofNat]; exact Nat.mod_eq_of_lt ha
  have h2 : (BitVec.ofInt 64 ((c * 2 ^ (r * 8) : Nat) : Int)).toNat = c * 2 ^ (r * 8) := by
    rw [BitVec.ofInt_natCast, BitVec.toNat_ofNat]; exact Nat.mod_eq_of_lt hb
  show IntKind.u64.wrap ((BitVec.ofInt 64 _ ||| BitVec.ofInt 64 _).toNat : Int) = _
  rw [BitVec.toNat_or, h1, h2]
  have := Nat.or_lt_two_pow ha hb
  exact IntWalk.u64_in _ (by omega)
set_option maxRecDepth 100000 in
set_option maxHeartbeats 2000000 in
theorem fromBytes_any (A : Option Addr) (m c : Nat) (b : List UInt8) (w : World) (h : Rd w A m c b) (hm : m ≤ 1000000) :
    Calls Try.prog 46 #[.slice A m c] w fun e w' => ∃ g n1 c1, e = .returned (.slice (some ⟨g, 0, none⟩) n1 c1) ∧ w.heap.size ≤ g ∧ n1 ≤ c1 ∧ c1 ≤ maxLen ∧ RdC Try.eU w' (some ⟨g, 0, none⟩) n1 (trimL (limbsN ((m + 7) / 8) (beVal b))) ∧ Below w.heap.size w w' := by
  obtain ⟨X, hX⟩ : ∃ X, w.heap.size = X := ⟨_, rfl⟩
  obtain ⟨N, hN⟩ : ∃ N, (m + 7) / 8 = N := ⟨_, rfl⟩
  have hq0 : ((m : Int) + 7).tdiv 8 = (N : Int) := by rw [Int.tdiv_eq_ediv_of_nonneg (by omega)]; omega
  rw [hN]
  have hbm := h.1
  have hNb : N ≤ 200000 := by omega
  have hmk := make_nat N (by omega) w
  obtain ⟨w1, hw1⟩ : ∃ w1, w.alloc (.cells (madeCells #[.int .u64 0] N) 58) = w1 := ⟨_, rfl⟩
  have hb1 : Below w.heap.size w w1 := by rw [← hw1]; exact (Below.refl _ _).alloc (Nat.le_refl _) _
  have hR1 : Row w1 X 58 N N ((limbsN N (vAt b 0)).map fun x => .int .u64 (x.toNat : Int)) := by
    rw [vAt_zero, limbsN_zero, List.map_replicate, ← hw1, ← hX]
    refine ⟨by simp, Nat.le_refl _, by unfold maxLen; omega, _, Blk.new _ _ _, by simp [size_madeCells], ?_⟩
    rw [madeCells_one]
    simp
  rw [hw1, hX] at hmk
  have H1 := Lib.hid (And.intro h (And.intro hR1 (And.intro hb1 hX)))
  have HN := Lib.hid hN
  have HM := Lib.hid hbm
  clear h hR1 hb1 hN hbm
  go_enter Try.func46, Try.ntmps46
  go_wp2_with fail
  try rw [hw1]
  try rw [hX]
  go_wp2_with fail
  go_loopw [14] (fun kk wr => ∃ i : Nat, i ≤ m ∧ kk = .int .i64 (i : Int) ∧ Row wr X 58 N N ((limbsN N (vAt b i)).map fun x => .int .u64 (x.toNat : Int)) ∧ Turn [X] w1 wr) (fun kk _ => m - (intOf kk).toNat)
  case atStart => exact ⟨0, by omega, rfl, H1.out.2.1, Turn.refl _ _⟩
  case round =>
    obtain ⟨i, hi, rfl, hR, hT⟩ := hrel
    have hbw : Below X w wr := by have := below_turn (H1.out.2.2.1) hT (fun t ht => by simp at ht; have := H1.out.2.2.2; omega) H1.out.2.2.1.size; rwa [H1.out.2.2.2] at this
    have hRb : Rd wr A m c b := H1.out.1.below (by rw [H1.out.2.2.2]; exact hbw)
    by_cases hlt : i < m
    · have hlti : (i : Int) < m := by omega
      have hltd : decide ((i : Int) < (m : Int)) = true := decide_eq_true hlti
      have hi0 : ¬ ((i : Int) < 0) := by omega
      obtain ⟨g, off, hAe, hat⟩ := hRb.addr (by omega)
      subst hAe
      obtain ⟨x, hx⟩ : ∃ x, b[i]? = some x := ⟨_, List.getElem?_eq_getElem (by have := HM.out; omega)⟩
      have cx := hat.2 i x hx
      unfold B at cx
      obtain ⟨k, hk⟩ : ∃ k, m - 1 - i = k := ⟨_, rfl⟩
      have hk1 : IntKind.i64.wrap ((m : Int) - 1 - i) = k := (IntWalk.i64_in _ (by omega)).trans (by omega)
      have hk1' : (m : Int) - 1 - i = k := by omega
      obtain ⟨st, sv⟩ := vAt_step (k := k) hx (by rw [← HM.out]; exact hk)
      obtain ⟨q, hqq⟩ : ∃ q, k / 8 = q := ⟨_, rfl⟩
      obtain ⟨r, hrr⟩ : ∃ r, k % 8 = r := ⟨_, rfl⟩
      have hk2 : (k : Int).tdiv 8 = (q : Int) := by rw [Int.tdiv_eq_ediv_of_nonneg (by omega)]; omega
      have hk3 : (k : Int).tmod 8 = (r : Int) := by rw [Int.tmod_eq_emod_of_nonneg (by omega)]; omega
      have hk4 : IntKind.i64.wrap ((r : Int) * 8) = (r : Int) * 8 := IntWalk.i64_in _ (by omega)
      have hr8 : r < 8 := by omega
      have hk5 : IntKind.i64.wrap (q : Int) = q := IntWalk.i64_in _ (by omega)
      have hk6 : IntKind.i64.wrap (r : Int) = r := IntWalk.i64_in _ (by omega)
      have hr80 : (0 : Int) ≤ (r : Int) * 8 := by omega
      have hr81 : (r : Int) * 8 < 64 := by omega
      have hr82 : ((r : Int) * 8).toNat = r * 8 := by omega
      have hqN : q < N := by have := HN.out; omega
      have hq0 : ¬ ((q : Int) < 0) := by omega
      have hqi : (q : Int) < N := by omega
      have hq00 : (0 : Int) ≤ q := by omega
      have hl := limbsN_step (N := N) sv x.toNat_lt (by rw [hqq]; exact hqN)
      rw [hqq, hrr, ← st] at hl
      obtain ⟨V, hV⟩ : ∃ V, vAt b i / 2 ^ (64 * q) % 2 ^ 64 = V := ⟨_, rfl⟩
      have hVl : V < 2 ^ 64 := by rw [← hV]; exact Nat.mod_lt _ (by decide)
      have hV0 : V % 2 ^ (8 * (r + 1)) = 0 := by rw [← hV, ← hrr, ← hqq]; exact vhigh_mod sv
      obtain ⟨or1, or2⟩ := or_u64 V x.toNat r hr8 x.toNat_lt hVl hV0
      rw [hV] at hl
      have cq := hR.get (i := q) (v := .int .u64 (V : Int)) (by rw [List.getElem?_map, limbsN_get hqN, ← hV]; simp [UInt64.toNat_ofNat'])
      have fq := hR.frozen q
      have hxl := x.toNat_lt
      obtain ⟨xn, hxn⟩ : ∃ xn, x.toNat = xn := ⟨_, rfl⟩
      rw [hxn] at cx hl or1 or2 hxl
      have hxw : IntKind.u64.wrap (xn : Int) = xn := IntWalk.u64_in _ (by omega)
      have hsh : IntKind.u64.wrap ((xn : Int) * 2 ^ (r * 8)) = (xn : Int) * 2 ^ (r * 8) := IntWalk.u64_in _ (by
        have e2 : ((xn : Int) * 2 ^ (r * 8)) = ((xn * 2 ^ (r * 8) : Nat) : Int) := by simp
        rw [e2]; omega)
      have HS := Lib.hid (And.intro hR (And.intro hT (And.intro hl or2)))
      clear hR hT hl or2 hbw hRb hat hx hk hqq hrr st sv hV hV0 hxn
      go_wp2_with fail
      go_still_tail 13, (by kernel_rfl)
      go_wp2_with fail
      have hR2 := HS.out.1.set_ q (.int .u64 ((V + xn * 2 ^ (r * 8) : Nat) : Int))
      rw [← show ((UInt64.ofNat (V + xn * 2 ^ (r * 8))).toNat : Int) = ((V + xn * 2 ^ (r * 8) : Nat) : Int) by rw [UInt64.toNat_ofNat', Nat.mod_eq_of_lt HS.out.2.2.2], ← List.map_set (f := fun x : UInt64 => (Value.int .u64 (x.toNat : Int))), ← HS.out.2.2.1, UInt64.toNat_ofNat', Nat.mod_eq_of_lt HS.out.2.2.2] at hR2
      have ec : ((V + xn * 2 ^ (r * 8) : Nat) : Int) = (V : Int) + (xn : Int) * 2 ^ (r * 8) := by simp
      rw [ec] at hR2
      go_roundw
      case measure => simp [intOf]; omega
      exact ⟨i + 1, by omega, by simp, hR2, (HS.out.2.1.setCell (.inl (by simp)) _).drew⟩
    · obtain rfl : i = m := by omega
      have hlti : ¬ (i : Int) < i := by omega
      have hltd : decide ((i : Int) < (i : Int)) = false := decide_eq_false hlti
      have hvf := vAt_full b
      rw [← HM.out] at hvf
      rw [hvf] at hR
      have hrd : RdC Try.eU wr (some ⟨X, 0, none⟩) N (limbsN N (beVal b)) := ⟨limbsN_len _ _, .inr ⟨X, 0, rfl, hR.lt, fun j u hu => by
        rw [Nat.zero_add]
        refine hR.get ?_
        rw [← hu]
        show _ = (List.flatMap Ucells _)[j]?
        rw [show List.flatMap Ucells (limbsN N (beVal b)) = (limbsN N (beVal b)).map fun x => .int .u64 (x.toNat : Int) from flatU _]⟩⟩
      have ht := trim_any (some ⟨X, 0, none⟩) N N _ wr hrd ⟨Nat.le_refl _, by unfold maxLen; omega⟩ (fun h => by cases h)
      obtain ⟨hle, hte⟩ := trimL_take (limbsN N (beVal b))
      have hrd2 := hrd.take (trimL (limbsN N (beVal b))).length (by have := limbsN_len N (beVal b); omega)
      rw [← hte] at hrd2
      have HS := Lib.hid (And.intro hrd2 (And.intro hbw (by rw [limbsN_len] at hle; exact hle)))
      clear hR hT hbw hRb hrd hrd2 hvf hle hte
      go_wp2_with fail
      refine ht.mono ?_
      rintro e w9 ⟨rfl, rfl⟩
      go_wp2_with fail
      go_ret
      exact ⟨X, _, N, rfl, by first | omega | (rw [hX]; omega) | exact Nat.le_refl _, HS.out.2.2, by unfold maxLen; omega, HS.out.1, by first | exact HS.out.2.1 | (rw [hX]; exact HS.out.2.1)⟩
end Go.Proofs.Ytgkhhinjdojbhaa
