/-
  Bytes as the walk meets them: shifts, and, or, products. Over any program.
-/
import Derived.Test.YtgkkafkdgmdihaaWords
namespace Go.Proofs.Ytgkkafkdgmdihaa
open Go.RowKit

section
variable (t : TypeId)
theorem and_B (x y : UInt8) : binOp .and t (B x) (B y) = pure (B (x &&& y)) := by
  show (pure (.int .u8 (IntKind.u8.wrap (BitVec.toNat (BitVec.ofInt 8 (x.toNat : Int) &&& BitVec.ofInt 8 (y.toNat : Int))))) : Sem Value) = _
  rw [wrap_u8, ← B_eq]
  simp only [BitVec.ofInt_natCast, UInt8.toNat_and, BitVec.toNat_and, BitVec.toNat_ofNat]
  have := x.toNat_lt; have := y.toNat_lt
  rw [Nat.mod_eq_of_lt (by omega), Nat.mod_eq_of_lt (by omega)]
  have : x.toNat &&& y.toNat < 2 ^ 8 := Nat.and_lt_two_pow _ (by omega)
  omega
theorem or_B (x y : UInt8) : binOp .or t (B x) (B y) = pure (B (x ||| y)) := by
  show (pure (.int .u8 (IntKind.u8.wrap (BitVec.toNat (BitVec.ofInt 8 (x.toNat : Int) ||| BitVec.ofInt 8 (y.toNat : Int))))) : Sem Value) = _
  rw [wrap_u8, ← B_eq]
  simp only [BitVec.ofInt_natCast, UInt8.toNat_or, BitVec.toNat_or, BitVec.toNat_ofNat]
  have := x.toNat_lt; have := y.toNat_lt
  rw [Nat.mod_eq_of_lt (by omega), Nat.mod_eq_of_lt (by omega)]
  have : x.toNat ||| y.toNat < 2 ^ 8 := Nat.or_lt_two_pow (by omega) (by omega)
  omega
theorem B_lit (n : Nat) (h : n < 256) : (.int .u8 (n : Int) : Value) = B (UInt8.ofNat n) := by
  rw [B_eq]
  rw [UInt8.toNat_ofNat', Nat.mod_eq_of_lt (by omega)]
theorem andI_B (x : UInt8) (n : Int) (h0 : 0 ≤ n) (h : n < 256) : binOp .and t (B x) (.int .u8 n) = pure (B (x &&& UInt8.ofNat n.toNat)) := by
  obtain ⟨m, rfl⟩ := Int.eq_ofNat_of_zero_le h0
  rw [B_lit m (by omega), and_B]
  rfl
def isN (x : UInt8) (n : Int) : Bool := (x.toNat : Int) == n
def gtN (x : UInt8) (n : Int) : Bool := decide (n < (x.toNat : Int))
theorem eqlI_B (x : UInt8) (n : Int) : binOp .eql t (B x) (.int .u8 n) = pure (.bool (isN x n)) := binOp_eql t .u8 _ _
theorem neqI_B (x : UInt8) (n : Int) : binOp .neq t (B x) (.int .u8 n) = pure (.bool (!isN x n)) := binOp_neq t .u8 _ _
theorem gtrI_B (x : UInt8) (n : Int) : binOp .gtr t (B x) (.int .u8 n) = pure (.bool (gtN x n)) := by
  rw [show B x = .int .u8 (x.toNat : Int) from rfl]
  exact binOp_gtr t .u8 _ _
theorem mulI_B (x : UInt8) (n : Nat) (h : n < 256) : binOp .mul t (B x) (.int .u8 (n : Int)) = pure (B (x * UInt8.ofNat n)) := by
  show (pure (.int .u8 (IntKind.u8.wrap ((x.toNat : Int) * n))) : Sem Value) = _
  rw [wrap_u8, ← B_eq]
  rw [UInt8.toNat_mul, UInt8.toNat_ofNat', Nat.mod_eq_of_lt (a := n) (by omega)]
  simp
theorem mulB_lit (x : UInt8) (n : Int) (h0 : 0 ≤ n) (h : n < 256) : binOp .mul t (B x) (.int .u8 n) = pure (B (x * UInt8.ofNat n.toNat)) := by
  obtain ⟨m, rfl⟩ := Int.eq_ofNat_of_zero_le h0
  exact mulI_B t x m (by omega)
theorem shr_B (x : UInt8) (k : IntKind) (n : Nat) (h : n < 8) : binOp .shr t (B x) (.int k n) = pure (B (x >>> UInt8.ofNat n)) := by
  show Op.shift .shr .u8 (x.toNat : Int) k (n : Int) = _
  unfold Op.shift
  rw [if_neg (by omega)]
  simp only [Int.toNat_natCast, IntKind.bits, Nat.min_eq_left (Nat.le_of_lt h)]
  rw [← B_eq]
  rw [UInt8.toNat_shiftRight, UInt8.toNat_ofNat', Nat.mod_eq_of_lt (a := n) (by omega), Nat.mod_eq_of_lt h, Nat.shiftRight_eq_div_pow]
  rw [Int.fdiv_eq_ediv_of_nonneg _ (by exact_mod_cast Nat.zero_le _)]
  simp
theorem shl_B (x : UInt8) (k : IntKind) (n : Nat) (h : n < 8) : binOp .shl t (B x) (.int k n) = pure (B (x <<< UInt8.ofNat n)) := by
  show Op.shift .shl .u8 (x.toNat : Int) k (n : Int) = _
  unfold Op.shift
  rw [if_neg (by omega)]
  simp only [Int.toNat_natCast, IntKind.bits, Nat.min_eq_left (Nat.le_of_lt h)]
  rw [wrap_u8, ← B_eq]
  rw [UInt8.toNat_shiftLeft, UInt8.toNat_ofNat', Nat.mod_eq_of_lt (a := n) (by omega), Nat.mod_eq_of_lt h, Nat.shiftLeft_eq]
  simp
theorem shrI_B (x : UInt8) (k : IntKind) (n : Int) (h0 : 0 ≤ n) (h : n < 8) : binOp .shr t (B x) (.int k n) = pure (B (x >>> UInt8.ofNat n.toNat)) := by
  obtain ⟨m, rfl⟩ := Int.eq_ofNat_of_zero_le h0
  exact shr_B t x k m (by omega)
theorem shlI_B (x : UInt8) (k : IntKind) (n : Int) (h0 : 0 ≤ n) (h : n < 8) : binOp .shl t (B x) (.int k n) = pure (B (x <<< UInt8.ofNat n.toNat)) := by
  obtain ⟨m, rfl⟩ := Int.eq_ofNat_of_zero_le h0
  exact shl_B t x k m (by omega)
end
theorem all8 {P : UInt8 → Prop} (h : ∀ i : Fin 256, P (UInt8.ofNat i.val)) (a : UInt8) : P a := by
  have := h ⟨a.toNat, a.toNat_lt⟩
  simpa using this
theorem quo2_B (t : TypeId) (x : UInt8) : binOp .quo t (B x) (.int .u8 2) = pure (B (x >>> 1)) := by
  rw [show B x = .int .u8 (x.toNat : Int) from rfl, binOp_quo]
  have h := x.toNat_lt
  have e : ((x >>> 1).toNat : Int) = x.toNat / 2 := by rw [UInt8.toNat_shiftRight]; simp [Nat.shiftRight_eq_div_pow]
  show (pure (.int .u8 (IntKind.u8.wrap (Int.tdiv (x.toNat : Int) 2))) : Sem Value) = _
  rw [wrap_u8, ← B_eq (x := x >>> 1)]
  rw [e, Int.tdiv_eq_ediv_of_nonneg (by omega)]
  omega
theorem rem2_B (t : TypeId) (x : UInt8) : binOp .rem t (B x) (.int .u8 2) = pure (B (x &&& 1)) := by
  rw [show B x = .int .u8 (x.toNat : Int) from rfl, binOp_rem]
  have h := x.toNat_lt
  have e : ((x &&& 1).toNat : Int) = x.toNat % 2 := by simp
  show (pure (.int .u8 (Int.tmod (x.toNat : Int) 2)) : Sem Value) = _
  rw [← B_eq (x := x &&& 1)]
  rw [e, Int.tmod_eq_emod_of_nonneg (by omega)]
theorem mul2_B (t : TypeId) (x : UInt8) : binOp .mul t (B x) (.int .u8 2) = pure (B (x <<< 1)) := by
  rw [mulB_lit t x 2 (by omega) (by omega)]
  have : x * UInt8.ofNat (Int.toNat 2) = x <<< 1 := by
    revert x; refine all8 ?_; decide +kernel
  rw [this]
def geN (x : UInt8) (n : Int) : Bool := decide ((x.toNat : Int) ≥ n)
theorem geqI_B (t : TypeId) (x : UInt8) (n : Int) : binOp .geq t (B x) (.int .u8 n) = pure (.bool (geN x n)) := by
  rw [show B x = .int .u8 (x.toNat : Int) from rfl]
  exact binOp_geq t .u8 _ _
theorem eqGuard_eql_B (t : TypeId) (x y : Operand) (u : UInt8) (n : Int) : eqGuard .eql t x y (B u) (.int .u8 n) = pure () := by
  rw [show B u = .int .u8 (u.toNat : Int) from rfl]; simp [go_sem]
theorem eqGuard_neq_B (t : TypeId) (x y : Operand) (u : UInt8) (n : Int) : eqGuard .neq t x y (B u) (.int .u8 n) = pure () := by
  rw [show B u = .int .u8 (u.toNat : Int) from rfl]; simp [go_sem]
theorem indexAt_B (t : TypeId) (v : Value) (x : UInt8) : Instr.indexAt t v (B x) = Instr.indexAt t v (.int .u8 (x.toNat : Int)) := rfl
attribute [go_sem] indexAt_B quo2_B rem2_B mul2_B geqI_B eqGuard_eql_B eqGuard_neq_B and_B or_B andI_B mulB_lit shrI_B shlI_B eqlI_B neqI_B gtrI_B
end Go.Proofs.Ytgkkafkdgmdihaa
