/-
  Numbers: 'Len64'.
-/
import Derived.Test.YtgkhhinjdojbhaaNum2
namespace Go.Proofs.Ytgkhhinjdojbhaa
open Go.RowKit

def bl (n : Nat) : Nat := if n = 0 then 0 else Nat.log2 n + 1
def len8tab : ByteArray := { data := #[0, 1, 2, 2, 3, 3, 3, 3, 4, 4, 4, 4, 4, 4, 4, 4, 5, 5, 5, 5, 5, 5, 5, 5, 5, 5, 5, 5, 5, 5, 5, 5, 6, 6, 6, 6, 6, 6, 6, 6, 6, 6, 6, 6, 6, 6, 6, 6, 6, 6, 6, 6, 6, 6, 6, 6, 6, 6, 6, 6, 6, 6, 6, 6, 7, 7, 7, 7, 7, 7, 7, 7, 7, 7, 7, 7, 7, 7, 7, 7, 7, 7, 7, 7, 7, 7, 7, 7, 7, 7, 7, 7, 7, 7, 7, 7, 7, 7, 7, 7, 7, 7, 7, 7, 7, 7, 7, 7, 7, 7, 7, 7, 7, 7, 7, 7, 7, 7, 7, 7, 7, 7, 7, 7, 7, 7, 7, 7, 8, 8, 8, 8, 8, 8, 8, 8, 8, 8, 8, 8, 8, 8, 8, 8, 8, 8, 8, 8, 8, 8, 8, 8, 8, 8, 8, 8, 8, 8, 8, 8, 8, 8, 8, 8, 8, 8, 8, 8, 8, 8, 8, 8, 8, 8, 8, 8, 8, 8, 8, 8, 8, 8, 8, 8, 8, 8, 8, 8, 8, 8, 8, 8, 8, 8, 8, 8, 8, 8, 8, 8, 8, 8, 8, 8, 8, 8, 8, 8, 8, 8, 8, 8, 8, 8, 8, 8, 8, 8, 8, 8, 8, 8, 8, 8, 8, 8, 8, 8, 8, 8, 8, 8, 8, 8, 8, 8, 8, 8, 8, 8, 8, 8, 8, 8, 8, 8, 8, 8, 8, 8, 8, 8, 8, 8, 8, 8] }
theorem len8_size : len8tab.size = 256 := by decide +kernel
theorem len8_ok : ∀ i : Fin 256, wrap64 (len8tab[i.1]'(by rw [len8_size]; exact i.2)).toNat = bl i.1 := by decide +kernel
theorem bl_shift {n : Nat} (k : Nat) (h : 2 ^ k ≤ n) : bl n = k + bl (n / 2 ^ k) := by
  have hp : 0 < 2 ^ k := Nat.two_pow_pos k
  have hn : n ≠ 0 := by omega
  have hq : n / 2 ^ k ≠ 0 := by
    have := Nat.div_pos h hp; omega
  unfold bl
  rw [if_neg hn, if_neg hq]
  have : Nat.log2 n = k + Nat.log2 (n / 2 ^ k) := by
    rw [Nat.log2_eq_iff hn]
    have h1 := Nat.log2_self_le hq
    have h2 := Nat.lt_log2_self (n := n / 2 ^ k)
    constructor
    · rw [Nat.pow_add, Nat.mul_comm]; exact Nat.le_trans (Nat.mul_le_mul_right _ h1) (Nat.div_mul_le_self _ _)
    · rw [Nat.add_assoc, Nat.pow_add, Nat.mul_comm]; exact (Nat.div_lt_iff_lt_mul hp).1 h2
  omega
theorem bl_small : ∀ i : Fin 256, bl i.1 ≤ 8 := by decide +kernel
theorem w64 {n : Nat} (h : n ≤ 1000) : wrap64 ((n : Nat) : Int) = n := by unfold wrap64; omega
set_option maxRecDepth 100000 in
set_option maxHeartbeats 8000000 in
theorem len64_any (x : Nat) (hx : x < 18446744073709551616) (w : World) :
    Calls Try.prog 58 #[.int .u64 (x : Int)] w fun e w' => e = .returned (.int .i64 (bl x : Nat)) ∧ w = w' := by
  by_cases t0 : x < 4294967296
  · by_cases t1 : x < 65536
    · by_cases t2 : x < 256
      · have lt32 : ¬ (4294967296 : Int) ≤ (x : Int) := by omega
        have lt16 : ¬ (65536 : Int) ≤ (x : Int) := by omega
        have lt8 : ¬ (256 : Int) ≤ (x : Int) := by omega
        have hN : x < 256 := by omega
        go_enter Try.func58, Try.ntmps58
        go_wp2_with fail
        go_ret
        refine ⟨congrArg (fun z => Ending.returned (.int .i64 z)) ?_, rfl⟩
        have ht := len8_ok ⟨x, hN⟩
        have hs := bl_small ⟨x, hN⟩
        simp only at ht hs
        show wrap64 (wrap64 ((len8tab[x]'(by rw [len8_size]; exact hN)).toNat : Int)) = _
        rw [ht]
        exact w64 (by omega)
      · have lt32 : ¬ (4294967296 : Int) ≤ (x : Int) := by omega
        have lt16 : ¬ (65536 : Int) ≤ (x : Int) := by omega
        have ge8 : (256 : Int) ≤ (x : Int) := by omega
        have nn8 : (0 : Int) ≤ (x : Int) / 256 := by omega
        have hN : x / 256 < 256 := by omega
        have tn : ((x : Int) / 256).toNat = x / 256 := by omega
        have l256 : (x : Int) / 256 < 256 := by omega
        go_enter Try.func58, Try.ntmps58
        go_wp2_with fail
        go_ret
        refine ⟨congrArg (fun z => Ending.returned (.int .i64 z)) ?_, rfl⟩
        have ht := len8_ok ⟨x / 256, hN⟩
        have hs := bl_small ⟨x / 256, hN⟩
        simp only at ht hs
        show wrap64 (8 + wrap64 ((len8tab[x / 256]'(by rw [len8_size]; exact hN)).toNat : Int)) = _
        rw [ht]
        have sh8 : bl (x) = 8 + bl (x / 256) := bl_shift 8 (by show 256 ≤ x; omega)
        have hx2 : bl x = 8 + bl (x / 256) := by omega
        rw [hx2]
        have := w64 (n := 8 + bl (x / 256)) (by omega)
        exact this
    · by_cases t2 : x / 65536 < 256
      · have lt32 : ¬ (4294967296 : Int) ≤ (x : Int) := by omega
        have ge16 : (65536 : Int) ≤ (x : Int) := by omega
        have nn16 : (0 : Int) ≤ (x : Int) / 65536 := by omega
        have lt8 : ¬ (256 : Int) ≤ (x : Int) / 65536 := by omega
        have hN : x / 65536 < 256 := by omega
        have tn : ((x : Int) / 65536).toNat = x / 65536 := by omega
        have l256 : (x : Int) / 65536 < 256 := by omega
        go_enter Try.func58, Try.ntmps58
        go_wp2_with fail
        go_ret
        refine ⟨congrArg (fun z => Ending.returned (.int .i64 z)) ?_, rfl⟩
        have ht := len8_ok ⟨x / 65536, hN⟩
        have hs := bl_small ⟨x / 65536, hN⟩
        simp only at ht hs
        show wrap64 (16 + wrap64 ((len8tab[x / 65536]'(by rw [len8_size]; exact hN)).toNat : Int)) = _
        rw [ht]
        have sh16 : bl (x) = 16 + bl (x / 65536) := bl_shift 16 (by show 65536 ≤ x; omega)
        have hx2 : bl x = 16 + bl (x / 65536) := by omega
        rw [hx2]
        have := w64 (n := 16 + bl (x / 65536)) (by omega)
        exact this
      · have lt32 : ¬ (4294967296 : Int) ≤ (x : Int) := by omega
        have ge16 : (65536 : Int) ≤ (x : Int) := by omega
        have nn16 : (0 : Int) ≤ (x : Int) / 65536 := by omega
        have ge8 : (256 : Int) ≤ (x : Int) / 65536 := by omega
        have nn8 : (0 : Int) ≤ (x : Int) / 65536 / 256 := by omega
        have hN : x / 65536 / 256 < 256 := by omega
        have tn : ((x : Int) / 65536 / 256).toNat = x / 65536 / 256 := by omega
        have l256 : (x : Int) / 65536 / 256 < 256 := by omega
        go_enter Try.func58, Try.ntmps58
        go_wp2_with fail
        go_ret
        refine ⟨congrArg (fun z => Ending.returned (.int .i64 z)) ?_, rfl⟩
        have ht := len8_ok ⟨x / 65536 / 256, hN⟩
        have hs := bl_small ⟨x / 65536 / 256, hN⟩
        simp only at ht hs
        show wrap64 (24 + wrap64 ((len8tab[x / 65536 / 256]'(by rw [len8_size]; exact hN)).toNat : Int)) = _
        rw [ht]
        have sh16 : bl (x) = 16 + bl (x / 65536) := bl_shift 16 (by show 65536 ≤ x; omega)
        have sh8 : bl (x / 65536) = 8 + bl (x / 65536 / 256) := bl_shift 8 (by show 256 ≤ x / 65536; omega)
        have hx2 : bl x = 24 + bl (x / 65536 / 256) := by omega
        rw [hx2]
        have := w64 (n := 24 + bl (x / 65536 / 256)) (by omega)
        exact this
  · by_cases t1 : x / 4294967296 < 65536
    · by_cases t2 : x / 4294967296 < 256
      · have ge32 : (4294967296 : Int) ≤ (x : Int) := by omega
        have nn32 : (0 : Int) ≤ (x : Int) / 4294967296 := by omega
        have lt16 : ¬ (65536 : Int) ≤ (x : Int) / 4294967296 := by omega
        have lt8 : ¬ (256 : Int) ≤ (x : Int) / 4294967296 := by omega
        have hN : x / 4294967296 < 256 := by omega
        have tn : ((x : Int) / 4294967296).toNat = x / 4294967296 := by omega
        have l256 : (x : Int) / 4294967296 < 256 := by omega
        go_enter Try.func58, Try.ntmps58
        go_wp2_with fail
        go_ret
        refine ⟨congrArg (fun z => Ending.returned (.int .i64 z)) ?_, rfl⟩
        have ht := len8_ok ⟨x / 4294967296, hN⟩
        have hs := bl_small ⟨x / 4294967296, hN⟩
        simp only at ht hs
        show wrap64 (32 + wrap64 ((len8tab[x / 4294967296]'(by rw [len8_size]; exact hN)).toNat : Int)) = _
        rw [ht]
        have sh32 : bl (x) = 32 + bl (x / 4294967296) := bl_shift 32 (by show 4294967296 ≤ x; omega)
        have hx2 : bl x = 32 + bl (x / 4294967296) := by omega
        rw [hx2]
        have := w64 (n := 32 + bl (x / 4294967296)) (by omega)
        exact this
      · have ge32 : (4294967296 : Int) ≤ (x : Int) := by omega
        have nn32 : (0 : Int) ≤ (x : Int) / 4294967296 := by omega
        have lt16 : ¬ (65536 : Int) ≤ (x : Int) / 4294967296 := by omega
        have ge8 : (256 : Int) ≤ (x : Int) / 4294967296 := by omega
        have nn8 : (0 : Int) ≤ (x : Int) / 4294967296 / 256 := by omega
        have hN : x / 4294967296 / 256 < 256 := by omega
        have tn : ((x : Int) / 4294967296 / 256).toNat = x / 4294967296 / 256 := by omega
        have l256 : (x : Int) / 4294967296 / 256 < 256 := by omega
        go_enter Try.func58, Try.ntmps58
        go_wp2_with fail
        go_ret
        refine ⟨congrArg (fun z => Ending.returned (.int .i64 z)) ?_, rfl⟩
        have ht := len8_ok ⟨x / 4294967296 / 256, hN⟩
        have hs := bl_small ⟨x / 4294967296 / 256, hN⟩
        simp only at ht hs
        show wrap64 (40 + wrap64 ((len8tab[x / 4294967296 / 256]'(by rw [len8_size]; exact hN)).toNat : Int)) = _
        rw [ht]
        have sh32 : bl (x) = 32 + bl (x / 4294967296) := bl_shift 32 (by show 4294967296 ≤ x; omega)
        have sh8 : bl (x / 4294967296) = 8 + bl (x / 4294967296 / 256) := bl_shift 8 (by show 256 ≤ x / 4294967296; omega)
        have hx2 : bl x = 40 + bl (x / 4294967296 / 256) := by omega
        rw [hx2]
        have := w64 (n := 40 + bl (x / 4294967296 / 256)) (by omega)
        exact this
    · by_cases t2 : x / 4294967296 / 65536 < 256
      · have ge32 : (4294967296 : Int) ≤ (x : Int) := by omega
        have nn32 : (0 : Int) ≤ (x : Int) / 4294967296 := by omega
        have ge16 : (65536 : Int) ≤ (x : Int) / 4294967296 := by omega
        have nn16 : (0 : Int) ≤ (x : Int) / 4294967296 / 65536 := by omega
        have lt8 : ¬ (256 : Int) ≤ (x : Int) / 4294967296 / 65536 := by omega
        have hN : x / 4294967296 / 65536 < 256 := by omega
        have tn : ((x : Int) / 4294967296 / 65536).toNat = x / 4294967296 / 65536 := by omega
        have l256 : (x : Int) / 4294967296 / 65536 < 256 := by omega
        go_enter Try.func58, Try.ntmps58
        go_wp2_with fail
        go_ret
        refine ⟨congrArg (fun z => Ending.returned (.int .i64 z)) ?_, rfl⟩
        have ht := len8_ok ⟨x / 4294967296 / 65536, hN⟩
        have hs := bl_small ⟨x / 4294967296 / 65536, hN⟩
        simp only at ht hs
        show wrap64 (48 + wrap64 ((len8tab[x / 4294967296 / 65536]'(by rw [len8_size]; exact hN)).toNat : Int)) = _
        rw [ht]
        have sh32 : bl (x) = 32 + bl (x / 4294967296) := bl_shift 32 (by show 4294967296 ≤ x; omega)
        have sh16 : bl (x / 4294967296) = 16 + bl (x / 4294967296 / 65536) := bl_shift 16 (by show 65536 ≤ x / 4294967296; omega)
        have hx2 : bl x = 48 + bl (x / 4294967296 / 65536) := by omega
        rw [hx2]
        have := w64 (n := 48 + bl (x / 4294967296 / 65536)) (by omega)
        exact this
      · have ge32 : (4294967296 : Int) ≤ (x : Int) := by omega
        have nn32 : (0 : Int) ≤ (x : Int) / 4294967296 := by omega
        have ge16 : (65536 : Int) ≤ (x : Int) / 4294967296 := by omega
        have nn16 : (0 : Int) ≤ (x : Int) / 4294967296 / 65536 := by omega
        have ge8 : (256 : Int) ≤ (x : Int) / 4294967296 / 65536 := by omega
        have nn8 : (0 : Int) ≤ (x : Int) / 4294967296 / 65536 / 256 := by omega
        have hN : x / 4294967296 / 65536 / 256 < 256 := by omega
        have tn : ((x : Int) / 4294967296 / 65536 / 256).toNat = x / 4294967296 / 65536 / 256 := by omega
        have l256 : (x : Int) / 4294967296 / 65536 / 256 < 256 := by omega
        go_enter Try.func58, Try.ntmps58
        go_wp2_with fail
        go_ret
        refine ⟨congrArg (fun z => Ending.returned (.int .i64 z)) ?_, rfl⟩
        have ht := len8_ok ⟨x / 4294967296 / 65536 / 256, hN⟩
        have hs := bl_small ⟨x / 4294967296 / 65536 / 256, hN⟩
        simp only at ht hs
        show wrap64 (56 + wrap64 ((len8tab[x / 4294967296 / 65536 / 256]'(by rw [len8_size]; exact hN)).toNat : Int)) = _
        rw [ht]
        have sh32 : bl (x) = 32 + bl (x / 4294967296) := bl_shift 32 (by show 4294967296 ≤ x; omega)
        have sh16 : bl (x / 4294967296) = 16 + bl (x / 4294967296 / 65536) := bl_shift 16 (by show 65536 ≤ x / 4294967296; omega)
        have sh8 : bl (x / 4294967296 / 65536) = 8 + bl (x / 4294967296 / 65536 / 256) := bl_shift 8 (by show 256 ≤ x / 4294967296 / 65536; omega)
        have hx2 : bl x = 56 + bl (x / 4294967296 / 65536 / 256) := by omega
        rw [hx2]
        have := w64 (n := 56 + bl (x / 4294967296 / 65536 / 256)) (by omega)
        exact this
end Go.Proofs.Ytgkhhinjdojbhaa
