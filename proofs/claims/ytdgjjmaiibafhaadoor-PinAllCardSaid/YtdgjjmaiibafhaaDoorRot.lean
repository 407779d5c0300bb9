/-
  Contracts of math/bits.RotateLeft32, RotateLeft64, zbyte.Get32, Get64, and of the reference's left, right, rightL, word.
-/
import Derived.Test.YtdgjjmaiibafhaaDoorWords
namespace Go.Proofs.YtdgjjmaiibafhaaDoor
open Go.RowKit

def rotl32 (x : UInt32) (n : Nat) : UInt32 := x <<< UInt32.ofNat n ||| x >>> UInt32.ofNat (32 - n)
def rotl64 (x : UInt64) (n : Nat) : UInt64 := x <<< UInt64.ofNat n ||| x >>> UInt64.ofNat (64 - n)

theorem and_mask (k : Int) (m : Nat) (j : Nat) (hj : m = 2 ^ j) (hm : m ≤ 64) (h0 : 0 < m) :
    BitVec.toNat (BitVec.ofInt 64 (k % 18446744073709551616) &&& BitVec.ofInt 64 ((m : Int) - 1)) = (k % m).toNat := by
  rw [BitVec.toNat_and, BitVec.toNat_ofInt, BitVec.toNat_ofInt]
  have e1 : (((m : Int) - 1) % ((2 ^ 64 : Nat) : Int)).toNat = 2 ^ j - 1 := by
    rw [← hj]; omega
  rw [e1, Nat.and_two_pow_sub_one_eq_mod, ← hj]
  have : (k % 18446744073709551616 % ((2 ^ 64 : Nat) : Int)) = k % 18446744073709551616 := by omega
  rw [this]
  have hd : ((m : Int)) ∣ 18446744073709551616 := by
    have hj6 : j ≤ 6 := by
      rcases Nat.lt_or_ge 6 j with h | h
      · have : 2 ^ 7 ≤ 2 ^ j := Nat.pow_le_pow_right (by omega) h
        omega
      · exact h
    subst hj
    have : j = 0 ∨ j = 1 ∨ j = 2 ∨ j = 3 ∨ j = 4 ∨ j = 5 ∨ j = 6 := by omega
    rcases this with rfl | rfl | rfl | rfl | rfl | rfl | rfl <;> decide
  have h2 := Int.emod_emod_of_dvd k hd
  have h3 : 0 ≤ k % 18446744073709551616 := by omega
  obtain ⟨u, hu⟩ := Int.eq_ofNat_of_zero_le h3
  rw [hu] at h2 ⊢
  rw [Int.toNat_natCast]
  omega

theorem rot32_any (x : UInt32) (k : Int) (n : Nat) (w : World) (hk : k % 32 = n) (h0 : 0 < n) :
    Calls Tryd.prog 80 #[U32 x, .int .i64 k] w fun e w' => e = .returned (U32 (rotl32 x n)) ∧ w = w' := by
  have hs : (convert 3 60 (.int .i64 k)).run Tryd.prog w = .ok (.int .u64 (IntKind.u64.wrap k)) w := conv_int w .u64 Tryd.underlying3 Tryd.underlying60 .i64 k
  have hn : (n : Int) < 32 := by omega
  have hn0 : (0 : Int) < n := by omega
  have ha : binOp .and 60 (.int .u64 (IntKind.u64.wrap k)) (.int .u64 31) = pure (.int .u64 n) := by
    show (pure (.int .u64 (IntKind.u64.wrap (BitVec.toNat (BitVec.ofInt 64 (IntKind.u64.wrap k) &&& BitVec.ofInt 64 (31 : Int))))) : Sem Value) = _
    have := and_mask k 32 5 rfl (by omega) (by omega)
    rw [show (((32 : Nat) : Int) - 1) = 31 from rfl] at this
    rw [wrap_u64, wrap_u64, this, show ((32 : Nat) : Int) = 32 from rfl, hk]
    refine congrArg (fun z : Int => (pure (Value.int IntKind.u64 z) : Sem Value)) ?_
    omega
  obtain ⟨m, hm⟩ : ∃ m : Nat, 32 - n = m := ⟨_, rfl⟩
  have hw : IntKind.u64.wrap (32 - (n : Int)) = (m : Int) := by rw [wrap_u64]; omega
  have hz : (m : Int) < 32 := by omega
  have HM := Lib.hid hm
  clear hm
  have H := Lib.hid hk
  clear hk
  go_enter Tryd.func80, Tryd.ntmps80
  go_wp2
  go_ret
  exact ⟨by rw [← HM.out]; rfl, rfl⟩
theorem rot64_any (x : UInt64) (k : Int) (n : Nat) (w : World) (hk : k % 64 = n) (h0 : 0 < n) :
    Calls Tryd.prog 82 #[U64 x, .int .i64 k] w fun e w' => e = .returned (U64 (rotl64 x n)) ∧ w = w' := by
  have hs : (convert 3 60 (.int .i64 k)).run Tryd.prog w = .ok (.int .u64 (IntKind.u64.wrap k)) w := conv_int w .u64 Tryd.underlying3 Tryd.underlying60 .i64 k
  have hn : (n : Int) < 64 := by omega
  have hn0 : (0 : Int) < n := by omega
  have ha : binOp .and 60 (.int .u64 (IntKind.u64.wrap k)) (.int .u64 63) = pure (.int .u64 n) := by
    show (pure (.int .u64 (IntKind.u64.wrap (BitVec.toNat (BitVec.ofInt 64 (IntKind.u64.wrap k) &&& BitVec.ofInt 64 (63 : Int))))) : Sem Value) = _
    have := and_mask k 64 6 rfl (by omega) (by omega)
    rw [show (((64 : Nat) : Int) - 1) = 63 from rfl] at this
    rw [wrap_u64, wrap_u64, this, show ((64 : Nat) : Int) = 64 from rfl, hk]
    refine congrArg (fun z : Int => (pure (Value.int IntKind.u64 z) : Sem Value)) ?_
    omega
  obtain ⟨m, hm⟩ : ∃ m : Nat, 64 - n = m := ⟨_, rfl⟩
  have hw : IntKind.u64.wrap (64 - (n : Int)) = (m : Int) := by rw [wrap_u64]; omega
  have hz : (m : Int) < 64 := by omega
  have HM := Lib.hid hm
  clear hm
  have H := Lib.hid hk
  clear hk
  go_enter Tryd.func82, Tryd.ntmps82
  go_wp2
  go_ret
  exact ⟨by rw [← HM.out]; rfl, rfl⟩

/-! ### the reference's -/
theorem left_any (x : UInt32) (n : Nat) (w : World) (h0 : 0 < n) (h1 : n < 32) :
    Calls Tryd.prog 69 #[U32 x, .int .u64 n] w fun e w' => e = .returned (U32 (rotl32 x n)) ∧ w = w' := by
  have hn : (n : Int) < 32 := by omega
  have hn0 : (0 : Int) < n := by omega
  obtain ⟨m, hm⟩ : ∃ m : Nat, 32 - n = m := ⟨_, rfl⟩
  have hw : IntKind.u64.wrap (32 - (n : Int)) = (m : Int) := by rw [wrap_u64]; omega
  have hz : (m : Int) < 32 := by omega
  have HM := Lib.hid hm
  clear hm
  go_enter Tryd.func69, Tryd.ntmps69
  go_wp2
  go_ret
  exact ⟨by rw [← HM.out]; rfl, rfl⟩
theorem right_any (x : UInt32) (n : Nat) (w : World) (h0 : 0 < n) (h1 : n < 32) :
    Calls Tryd.prog 72 #[U32 x, .int .u64 n] w fun e w' => e = .returned (U32 (rotl32 x (32 - n))) ∧ w = w' := by
  have hn : (n : Int) < 32 := by omega
  have hn0 : (0 : Int) < n := by omega
  obtain ⟨m, hm⟩ : ∃ m : Nat, 32 - n = m := ⟨_, rfl⟩
  have hw : IntKind.u64.wrap (32 - (n : Int)) = (m : Int) := by rw [wrap_u64]; omega
  have hz : (m : Int) < 32 := by omega
  have HM := Lib.hid hm
  clear hm
  go_enter Tryd.func72, Tryd.ntmps72
  go_wp2
  go_ret
  refine ⟨?_, rfl⟩
  rw [← HM.out]
  unfold rotl32
  rw [show 32 - (32 - n) = n from by omega, UInt32.or_comm]; rfl
theorem rightL_any (x : UInt64) (n : Nat) (w : World) (h0 : 0 < n) (h1 : n < 64) :
    Calls Tryd.prog 74 #[U64 x, .int .u64 n] w fun e w' => e = .returned (U64 (rotl64 x (64 - n))) ∧ w = w' := by
  have hn : (n : Int) < 64 := by omega
  have hn0 : (0 : Int) < n := by omega
  obtain ⟨m, hm⟩ : ∃ m : Nat, 64 - n = m := ⟨_, rfl⟩
  have hw : IntKind.u64.wrap (64 - (n : Int)) = (m : Int) := by rw [wrap_u64]; omega
  have hz : (m : Int) < 64 := by omega
  have HM := Lib.hid hm
  clear hm
  go_enter Tryd.func74, Tryd.ntmps74
  go_wp2
  go_ret
  refine ⟨?_, rfl⟩
  rw [← HM.out]
  unfold rotl64
  rw [show 64 - (64 - n) = n from by omega, UInt64.or_comm]; rfl

/-! ### numbers out of bytes -/
def be32 (a b c d : UInt8) : UInt32 := a.toUInt32 <<< 24 ||| b.toUInt32 <<< 16 ||| c.toUInt32 <<< 8 ||| d.toUInt32
def be64 (a b c d e f g h : UInt8) : UInt64 := a.toUInt64 <<< 56 ||| b.toUInt64 <<< 48 ||| c.toUInt64 <<< 40 ||| d.toUInt64 <<< 32 ||| e.toUInt64 <<< 24 ||| f.toUInt64 <<< 16 ||| g.toUInt64 <<< 8 ||| h.toUInt64
/-- The four bytes at place k. -/
def word32 (l : List UInt8) (k : Nat) : UInt32 := be32 (l.getD k 0) (l.getD (k + 1) 0) (l.getD (k + 2) 0) (l.getD (k + 3) 0)
def word64 (l : List UInt8) (k : Nat) : UInt64 := be64 (l.getD k 0) (l.getD (k + 1) 0) (l.getD (k + 2) 0) (l.getD (k + 3) 0) (l.getD (k + 4) 0) (l.getD (k + 5) 0) (l.getD (k + 6) 0) (l.getD (k + 7) 0)
theorem At.cellD {w : World} {b off : Nat} {l : List UInt8} (h : At w b off l) {k : Nat} (hk : k < l.length) : w.cell? ⟨b, off + k, none⟩ = some (B (l.getD k 0)) := by
  rw [h.cell hk]; simp [List.getD, hk]

theorem get32_any (b off n c : Nat) (l : List UInt8) (w : World) (h : At w b off l) (hn : n = l.length) (h4 : 4 ≤ n) :
    Calls Tryd.prog 79 #[.slice (some ⟨b, off, none⟩) n c] w fun e w' => e = .returned (U32 (word32 l 0)) ∧ ∃ k, w' = w.drewN k := by
  have c0 := h.cellD (k := 0) (by omega)
  have c1 := h.cellD (k := 1) (by omega)
  have c2 := h.cellD (k := 2) (by omega)
  have c3 := h.cellD (k := 3) (by omega)
  unfold word32
  simp only [Nat.add_zero, Nat.zero_add] at *
  generalize l.getD 0 0 = x0 at *
  generalize l.getD 1 0 = x1 at *
  generalize l.getD 2 0 = x2 at *
  generalize l.getD 3 0 = x3 at *
  have l0 : (0 : Int) < n := by omega
  have l1 : (1 : Int) < n := by omega
  have l2 : (2 : Int) < n := by omega
  have l3 : (3 : Int) < n := by omega
  have H := Lib.hid hn
  have H2 := Lib.hid h
  clear hn h
  go_enter Tryd.func79, Tryd.ntmps79
  go_wp2
  go_quiet (fail)
  go_wp2
  go_ret
  exact ⟨rfl, _, rfl⟩
theorem word_any (b off n c : Nat) (l : List UInt8) (w : World) (h : At w b off l) (hn : n = l.length) (h4 : 4 ≤ n) :
    Calls Tryd.prog 68 #[.slice (some ⟨b, off, none⟩) n c] w fun e w' => e = .returned (U32 (word32 l 0)) ∧ ∃ k, w' = w.drewN k := by
  have c0 := h.cellD (k := 0) (by omega)
  have c1 := h.cellD (k := 1) (by omega)
  have c2 := h.cellD (k := 2) (by omega)
  have c3 := h.cellD (k := 3) (by omega)
  unfold word32
  simp only [Nat.add_zero, Nat.zero_add] at *
  generalize l.getD 0 0 = x0 at *
  generalize l.getD 1 0 = x1 at *
  generalize l.getD 2 0 = x2 at *
  generalize l.getD 3 0 = x3 at *
  have l0 : (0 : Int) < n := by omega
  have l1 : (1 : Int) < n := by omega
  have l2 : (2 : Int) < n := by omega
  have l3 : (3 : Int) < n := by omega
  have H := Lib.hid hn
  have H2 := Lib.hid h
  clear hn h
  go_enter Tryd.func68, Tryd.ntmps68
  go_wp2
  go_quiet (fail)
  go_wp2
  go_ret
  exact ⟨rfl, _, rfl⟩
theorem get64_any (b off n c : Nat) (l : List UInt8) (w : World) (h : At w b off l) (hn : n = l.length) (h4 : 8 ≤ n) :
    Calls Tryd.prog 81 #[.slice (some ⟨b, off, none⟩) n c] w fun e w' => e = .returned (U64 (word64 l 0)) ∧ ∃ k, w' = w.drewN k := by
  have c0 := h.cellD (k := 0) (by omega)
  have c1 := h.cellD (k := 1) (by omega)
  have c2 := h.cellD (k := 2) (by omega)
  have c3 := h.cellD (k := 3) (by omega)
  have c4 := h.cellD (k := 4) (by omega)
  have c5 := h.cellD (k := 5) (by omega)
  have c6 := h.cellD (k := 6) (by omega)
  have c7 := h.cellD (k := 7) (by omega)
  unfold word64
  simp only [Nat.add_zero, Nat.zero_add] at *
  generalize l.getD 0 0 = x0 at *
  generalize l.getD 1 0 = x1 at *
  generalize l.getD 2 0 = x2 at *
  generalize l.getD 3 0 = x3 at *
  generalize l.getD 4 0 = x4 at *
  generalize l.getD 5 0 = x5 at *
  generalize l.getD 6 0 = x6 at *
  generalize l.getD 7 0 = x7 at *
  have l0 : (0 : Int) < n := by omega
  have l1 : (1 : Int) < n := by omega
  have l2 : (2 : Int) < n := by omega
  have l3 : (3 : Int) < n := by omega
  have l4 : (4 : Int) < n := by omega
  have l5 : (5 : Int) < n := by omega
  have l6 : (6 : Int) < n := by omega
  have l7 : (7 : Int) < n := by omega
  have H := Lib.hid hn
  have H2 := Lib.hid h
  clear hn h
  go_enter Tryd.func81, Tryd.ntmps81
  go_wp2
  go_quiet (fail)
  go_wp2
  go_ret
  exact ⟨rfl, _, rfl⟩
end Go.Proofs.YtdgjjmaiibafhaaDoor
