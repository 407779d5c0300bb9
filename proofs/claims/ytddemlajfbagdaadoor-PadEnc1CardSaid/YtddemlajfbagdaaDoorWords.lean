/-
  Numbers of 32 and 64 bits, and bytes, as the walk meets them: what each operation makes of them. Over any program; the conversions at this one.
-/
import Derived.Test.YtddemlajfbagdaaDoorBase
import Derived.Test.YtddemlajfbagdaaDoorChecked
import Derived.Deep.MidRow
namespace Go.Proofs.YtddemlajfbagdaaDoor
open Go.RowKit

def U32 (x : UInt32) : Value := .int .u32 (x.toNat : Int)
def U64 (x : UInt64) : Value := .int .u64 (x.toNat : Int)
theorem U32_one (x : UInt32) : (U32 x).oneCell' = true := rfl
theorem U64_one (x : UInt64) : (U64 x).oneCell' = true := rfl

theorem wrap_u32 (n : Int) : IntKind.u32.wrap n = n % 4294967296 := by simp [IntKind.wrap, IntKind.bits, IntKind.signed]
theorem wrap_u64 (n : Int) : IntKind.u64.wrap n = n % 18446744073709551616 := by simp [IntKind.wrap, IntKind.bits, IntKind.signed]
theorem wrap_u8 (n : Int) : IntKind.u8.wrap n = n % 256 := by simp [IntKind.wrap, IntKind.bits, IntKind.signed]
theorem U32_eq {x : UInt32} {n : Int} (h : (x.toNat : Int) = n) : U32 x = .int .u32 n := by unfold U32; rw [h]
theorem U64_eq {x : UInt64} {n : Int} (h : (x.toNat : Int) = n) : U64 x = .int .u64 n := by unfold U64; rw [h]
theorem B_eq {x : UInt8} {n : Int} (h : (x.toNat : Int) = n) : B x = .int .u8 n := by unfold B; rw [h]

section
variable (t : TypeId)
/-! ### 32 bits -/
theorem add_U32 (x y : UInt32) : binOp .add t (U32 x) (U32 y) = pure (U32 (x + y)) := by
  show (pure (.int .u32 (IntKind.u32.wrap (x.toNat + y.toNat))) : Sem Value) = _
  rw [wrap_u32, ← U32_eq]
  rw [UInt32.toNat_add]; omega
theorem add_U32_lit (x : UInt32) (n : Nat) : binOp .add t (U32 x) (.int .u32 n) = pure (U32 (x + UInt32.ofNat n)) := by
  show (pure (.int .u32 (IntKind.u32.wrap (x.toNat + n))) : Sem Value) = _
  rw [wrap_u32, ← U32_eq]
  rw [UInt32.toNat_add, UInt32.toNat_ofNat']; omega
theorem and_U32 (x y : UInt32) : binOp .and t (U32 x) (U32 y) = pure (U32 (x &&& y)) := by
  show (pure (.int .u32 (IntKind.u32.wrap (BitVec.toNat (BitVec.ofInt 32 (x.toNat : Int) &&& BitVec.ofInt 32 (y.toNat : Int))))) : Sem Value) = _
  rw [wrap_u32, ← U32_eq]
  simp only [BitVec.ofInt_natCast, UInt32.toNat_and, BitVec.toNat_and, BitVec.toNat_ofNat]
  have := x.toNat_lt; have := y.toNat_lt
  rw [Nat.mod_eq_of_lt (by omega), Nat.mod_eq_of_lt (by omega)]
  have : x.toNat &&& y.toNat < 2 ^ 32 := Nat.and_lt_two_pow _ (by omega)
  omega
theorem or_U32 (x y : UInt32) : binOp .or t (U32 x) (U32 y) = pure (U32 (x ||| y)) := by
  show (pure (.int .u32 (IntKind.u32.wrap (BitVec.toNat (BitVec.ofInt 32 (x.toNat : Int) ||| BitVec.ofInt 32 (y.toNat : Int))))) : Sem Value) = _
  rw [wrap_u32, ← U32_eq]
  simp only [BitVec.ofInt_natCast, UInt32.toNat_or, BitVec.toNat_or, BitVec.toNat_ofNat]
  have := x.toNat_lt; have := y.toNat_lt
  rw [Nat.mod_eq_of_lt (by omega), Nat.mod_eq_of_lt (by omega)]
  have : x.toNat ||| y.toNat < 2 ^ 32 := Nat.or_lt_two_pow (by omega) (by omega)
  omega
theorem xor_U32 (x y : UInt32) : binOp .xor t (U32 x) (U32 y) = pure (U32 (x ^^^ y)) := by
  show (pure (.int .u32 (IntKind.u32.wrap (BitVec.toNat (BitVec.ofInt 32 (x.toNat : Int) ^^^ BitVec.ofInt 32 (y.toNat : Int))))) : Sem Value) = _
  rw [wrap_u32, ← U32_eq]
  simp only [BitVec.ofInt_natCast, UInt32.toNat_xor, BitVec.toNat_xor, BitVec.toNat_ofNat]
  have := x.toNat_lt; have := y.toNat_lt
  rw [Nat.mod_eq_of_lt (by omega), Nat.mod_eq_of_lt (by omega)]
  have : x.toNat ^^^ y.toNat < 2 ^ 32 := Nat.xor_lt_two_pow (by omega) (by omega)
  omega
theorem not_U32 (x : UInt32) : Op.unary .xor (U32 x) = pure (U32 (~~~x)) := by
  show (pure (.int .u32 (IntKind.u32.wrap (BitVec.toNat (BitVec.ofInt 32 (4294967295 : Int) ^^^ BitVec.ofInt 32 (x.toNat : Int))))) : Sem Value) = _
  rw [wrap_u32, ← U32_eq]
  have e : BitVec.ofInt 32 (4294967295 : Int) ^^^ BitVec.ofInt 32 (x.toNat : Int) = ~~~ x.toBitVec := by
    rw [BitVec.ofInt_natCast]
    have : BitVec.ofNat 32 x.toNat = x.toBitVec := by simp
    rw [this, show BitVec.ofInt 32 4294967295 = BitVec.allOnes 32 from by decide, BitVec.allOnes_xor]
  rw [e]
  have : (~~~ x).toNat = (~~~ x.toBitVec).toNat := rfl
  rw [this]
  have := (~~~ x.toBitVec).isLt
  omega
theorem shr_U32 (x : UInt32) (k : IntKind) (n : Nat) (h : n < 32) : binOp .shr t (U32 x) (.int k n) = pure (U32 (x >>> UInt32.ofNat n)) := by
  show Op.shift .shr .u32 (x.toNat : Int) k (n : Int) = _
  unfold Op.shift
  rw [if_neg (by omega)]
  simp only [Int.toNat_natCast, IntKind.bits, Nat.min_eq_left (Nat.le_of_lt h)]
  rw [← U32_eq]
  rw [UInt32.toNat_shiftRight, UInt32.toNat_ofNat', Nat.mod_eq_of_lt (a := n) (by omega), Nat.mod_eq_of_lt h, Nat.shiftRight_eq_div_pow]
  rw [Int.fdiv_eq_ediv_of_nonneg _ (by exact_mod_cast Nat.zero_le _)]
  simp
theorem shl_U32 (x : UInt32) (k : IntKind) (n : Nat) (h : n < 32) : binOp .shl t (U32 x) (.int k n) = pure (U32 (x <<< UInt32.ofNat n)) := by
  show Op.shift .shl .u32 (x.toNat : Int) k (n : Int) = _
  unfold Op.shift
  rw [if_neg (by omega)]
  simp only [Int.toNat_natCast, IntKind.bits, Nat.min_eq_left (Nat.le_of_lt h)]
  rw [wrap_u32, ← U32_eq]
  rw [UInt32.toNat_shiftLeft, UInt32.toNat_ofNat', Nat.mod_eq_of_lt (a := n) (by omega), Nat.mod_eq_of_lt h, Nat.shiftLeft_eq]
  simp
theorem shrI_U32 (x : UInt32) (k : IntKind) (n : Int) (h0 : 0 ≤ n) (h : n < 32) : binOp .shr t (U32 x) (.int k n) = pure (U32 (x >>> UInt32.ofNat n.toNat)) := by
  obtain ⟨m, rfl⟩ := Int.eq_ofNat_of_zero_le h0
  exact shr_U32 t x k m (by omega)
theorem shlI_U32 (x : UInt32) (k : IntKind) (n : Int) (h0 : 0 ≤ n) (h : n < 32) : binOp .shl t (U32 x) (.int k n) = pure (U32 (x <<< UInt32.ofNat n.toNat)) := by
  obtain ⟨m, rfl⟩ := Int.eq_ofNat_of_zero_le h0
  exact shl_U32 t x k m (by omega)
theorem addI_U32 (x : UInt32) (n : Int) (h0 : 0 ≤ n) : binOp .add t (U32 x) (.int .u32 n) = pure (U32 (x + UInt32.ofNat n.toNat)) := by
  obtain ⟨m, rfl⟩ := Int.eq_ofNat_of_zero_le h0
  exact add_U32_lit t x m
/-! ### 64 bits -/
theorem add_U64 (x y : UInt64) : binOp .add t (U64 x) (U64 y) = pure (U64 (x + y)) := by
  show (pure (.int .u64 (IntKind.u64.wrap (x.toNat + y.toNat))) : Sem Value) = _
  rw [wrap_u64, ← U64_eq]
  rw [UInt64.toNat_add]; omega
theorem and_U64 (x y : UInt64) : binOp .and t (U64 x) (U64 y) = pure (U64 (x &&& y)) := by
  show (pure (.int .u64 (IntKind.u64.wrap (BitVec.toNat (BitVec.ofInt 64 (x.toNat : Int) &&& BitVec.ofInt 64 (y.toNat : Int))))) : Sem Value) = _
  rw [wrap_u64, ← U64_eq]
  simp only [BitVec.ofInt_natCast, UInt64.toNat_and, BitVec.toNat_and, BitVec.toNat_ofNat]
  have := x.toNat_lt; have := y.toNat_lt
  rw [Nat.mod_eq_of_lt (by omega), Nat.mod_eq_of_lt (by omega)]
  have : x.toNat &&& y.toNat < 2 ^ 64 := Nat.and_lt_two_pow _ (by omega)
  omega
theorem or_U64 (x y : UInt64) : binOp .or t (U64 x) (U64 y) = pure (U64 (x ||| y)) := by
  show (pure (.int .u64 (IntKind.u64.wrap (BitVec.toNat (BitVec.ofInt 64 (x.toNat : Int) ||| BitVec.ofInt 64 (y.toNat : Int))))) : Sem Value) = _
  rw [wrap_u64, ← U64_eq]
  simp only [BitVec.ofInt_natCast, UInt64.toNat_or, BitVec.toNat_or, BitVec.toNat_ofNat]
  have := x.toNat_lt; have := y.toNat_lt
  rw [Nat.mod_eq_of_lt (by omega), Nat.mod_eq_of_lt (by omega)]
  have : x.toNat ||| y.toNat < 2 ^ 64 := Nat.or_lt_two_pow (by omega) (by omega)
  omega
theorem xor_U64 (x y : UInt64) : binOp .xor t (U64 x) (U64 y) = pure (U64 (x ^^^ y)) := by
  show (pure (.int .u64 (IntKind.u64.wrap (BitVec.toNat (BitVec.ofInt 64 (x.toNat : Int) ^^^ BitVec.ofInt 64 (y.toNat : Int))))) : Sem Value) = _
  rw [wrap_u64, ← U64_eq]
  simp only [BitVec.ofInt_natCast, UInt64.toNat_xor, BitVec.toNat_xor, BitVec.toNat_ofNat]
  have := x.toNat_lt; have := y.toNat_lt
  rw [Nat.mod_eq_of_lt (by omega), Nat.mod_eq_of_lt (by omega)]
  have : x.toNat ^^^ y.toNat < 2 ^ 64 := Nat.xor_lt_two_pow (by omega) (by omega)
  omega
theorem not_U64 (x : UInt64) : Op.unary .xor (U64 x) = pure (U64 (~~~x)) := by
  show (pure (.int .u64 (IntKind.u64.wrap (BitVec.toNat (BitVec.ofInt 64 (18446744073709551615 : Int) ^^^ BitVec.ofInt 64 (x.toNat : Int))))) : Sem Value) = _
  rw [wrap_u64, ← U64_eq]
  have e : BitVec.ofInt 64 (18446744073709551615 : Int) ^^^ BitVec.ofInt 64 (x.toNat : Int) = ~~~ x.toBitVec := by
    rw [BitVec.ofInt_natCast]
    have : BitVec.ofNat 64 x.toNat = x.toBitVec := by simp
    rw [this, show BitVec.ofInt 64 18446744073709551615 = BitVec.allOnes 64 from by decide, BitVec.allOnes_xor]
  rw [e]
  have : (~~~ x).toNat = (~~~ x.toBitVec).toNat := rfl
  rw [this]
  have := (~~~ x.toBitVec).isLt
  omega
theorem shr_U64 (x : UInt64) (k : IntKind) (n : Nat) (h : n < 64) : binOp .shr t (U64 x) (.int k n) = pure (U64 (x >>> UInt64.ofNat n)) := by
  show Op.shift .shr .u64 (x.toNat : Int) k (n : Int) = _
  unfold Op.shift
  rw [if_neg (by omega)]
  simp only [Int.toNat_natCast, IntKind.bits, Nat.min_eq_left (Nat.le_of_lt h)]
  rw [← U64_eq]
  rw [UInt64.toNat_shiftRight, UInt64.toNat_ofNat', Nat.mod_eq_of_lt (a := n) (by omega), Nat.mod_eq_of_lt h, Nat.shiftRight_eq_div_pow]
  rw [Int.fdiv_eq_ediv_of_nonneg _ (by exact_mod_cast Nat.zero_le _)]
  simp
theorem shl_U64 (x : UInt64) (k : IntKind) (n : Nat) (h : n < 64) : binOp .shl t (U64 x) (.int k n) = pure (U64 (x <<< UInt64.ofNat n)) := by
  show Op.shift .shl .u64 (x.toNat : Int) k (n : Int) = _
  unfold Op.shift
  rw [if_neg (by omega)]
  simp only [Int.toNat_natCast, IntKind.bits, Nat.min_eq_left (Nat.le_of_lt h)]
  rw [wrap_u64, ← U64_eq]
  rw [UInt64.toNat_shiftLeft, UInt64.toNat_ofNat', Nat.mod_eq_of_lt (a := n) (by omega), Nat.mod_eq_of_lt h, Nat.shiftLeft_eq]
  simp
theorem shrI_U64 (x : UInt64) (k : IntKind) (n : Int) (h0 : 0 ≤ n) (h : n < 64) : binOp .shr t (U64 x) (.int k n) = pure (U64 (x >>> UInt64.ofNat n.toNat)) := by
  obtain ⟨m, rfl⟩ := Int.eq_ofNat_of_zero_le h0
  exact shr_U64 t x k m (by omega)
theorem shlI_U64 (x : UInt64) (k : IntKind) (n : Int) (h0 : 0 ≤ n) (h : n < 64) : binOp .shl t (U64 x) (.int k n) = pure (U64 (x <<< UInt64.ofNat n.toNat)) := by
  obtain ⟨m, rfl⟩ := Int.eq_ofNat_of_zero_le h0
  exact shl_U64 t x k m (by omega)
/-! ### bytes -/
theorem xor_B (x y : UInt8) : binOp .xor t (B x) (B y) = pure (B (x ^^^ y)) := by
  show (pure (.int .u8 (IntKind.u8.wrap (BitVec.toNat (BitVec.ofInt 8 (x.toNat : Int) ^^^ BitVec.ofInt 8 (y.toNat : Int))))) : Sem Value) = _
  rw [wrap_u8, ← B_eq]
  simp only [BitVec.ofInt_natCast, UInt8.toNat_xor, BitVec.toNat_xor, BitVec.toNat_ofNat]
  have := x.toNat_lt; have := y.toNat_lt
  rw [Nat.mod_eq_of_lt (by omega), Nat.mod_eq_of_lt (by omega)]
  have : x.toNat ^^^ y.toNat < 2 ^ 8 := Nat.xor_lt_two_pow (by omega) (by omega)
  omega
theorem xorI_B (x : UInt8) (n : Int) (h0 : 0 ≤ n) : binOp .xor t (B x) (.int .u8 n) = pure (B (x ^^^ UInt8.ofNat n.toNat)) := by
  obtain ⟨m, rfl⟩ := Int.eq_ofNat_of_zero_le h0
  show (pure (.int .u8 (IntKind.u8.wrap (BitVec.toNat (BitVec.ofInt 8 (x.toNat : Int) ^^^ BitVec.ofInt 8 (m : Int))))) : Sem Value) = _
  rw [wrap_u8, ← B_eq]
  simp only [Int.toNat_natCast, BitVec.ofInt_natCast, UInt8.toNat_xor, BitVec.toNat_xor, BitVec.toNat_ofNat, UInt8.toNat_ofNat']
  have := x.toNat_lt
  rw [Nat.mod_eq_of_lt (a := x.toNat) (by omega)]
  have : x.toNat ^^^ (m % 2 ^ 8) < 2 ^ 8 := Nat.xor_lt_two_pow (by omega) (by omega)
  omega
theorem xor_B_lit (x : UInt8) (n : Nat) : binOp .xor t (B x) (.int .u8 n) = pure (B (x ^^^ UInt8.ofNat n)) := by
  show (pure (.int .u8 (IntKind.u8.wrap (BitVec.toNat (BitVec.ofInt 8 (x.toNat : Int) ^^^ BitVec.ofInt 8 (n : Int))))) : Sem Value) = _
  rw [wrap_u8, ← B_eq]
  simp only [BitVec.ofInt_natCast, UInt8.toNat_xor, BitVec.toNat_xor, BitVec.toNat_ofNat, UInt8.toNat_ofNat']
  have := x.toNat_lt
  rw [Nat.mod_eq_of_lt (a := x.toNat) (by omega)]
  have : x.toNat ^^^ (n % 2 ^ 8) < 2 ^ 8 := Nat.xor_lt_two_pow (by omega) (by omega)
  omega
end

/-! ### conversions -/
section
variable {P : Program} {s d : TypeId} {ds : TypeDesc} (w : World)
theorem conv_int (k : IntKind) (hs : P.underlying s = some ds) (hd : P.underlying d = some (.int k)) (q : IntKind) (n : Int) : (convert s d (.int q n)).run P w = .ok (.int k (k.wrap n)) w := by
  unfold convert
  rw [Sem.run_bind, run_underlying hs w, Result.andThen_ok, Sem.run_bind, run_underlying hd w, Result.andThen_ok]
  cases ds <;> rfl
theorem conv_B_U32 (hs : P.underlying s = some ds) (hd : P.underlying d = some (.int .u32)) (x : UInt8) : (convert s d (B x)).run P w = .ok (U32 x.toUInt32) w := by
  unfold B
  rw [conv_int w .u32 hs hd, wrap_u32, ← U32_eq (x := x.toUInt32)]
  have := x.toNat_lt; rw [UInt8.toNat_toUInt32]; omega
theorem conv_B_U64 (hs : P.underlying s = some ds) (hd : P.underlying d = some (.int .u64)) (x : UInt8) : (convert s d (B x)).run P w = .ok (U64 x.toUInt64) w := by
  unfold B
  rw [conv_int w .u64 hs hd, wrap_u64, ← U64_eq (x := x.toUInt64)]
  have := x.toNat_lt; rw [UInt8.toNat_toUInt64]; omega
theorem conv_U32_U64 (hs : P.underlying s = some ds) (hd : P.underlying d = some (.int .u64)) (x : UInt32) : (convert s d (U32 x)).run P w = .ok (U64 x.toUInt64) w := by
  unfold U32
  rw [conv_int w .u64 hs hd, wrap_u64, ← U64_eq (x := x.toUInt64)]
  have := x.toNat_lt; rw [UInt32.toNat_toUInt64]; omega
theorem conv_U64_U32 (hs : P.underlying s = some ds) (hd : P.underlying d = some (.int .u32)) (x : UInt64) : (convert s d (U64 x)).run P w = .ok (U32 x.toUInt32) w := by
  unfold U64
  rw [conv_int w .u32 hs hd, wrap_u32, ← U32_eq (x := x.toUInt32)]
  rw [UInt64.toNat_toUInt32]; omega
theorem conv_U64_B (hs : P.underlying s = some ds) (hd : P.underlying d = some (.int .u8)) (x : UInt64) : (convert s d (U64 x)).run P w = .ok (B x.toUInt8) w := by
  unfold U64
  rw [conv_int w .u8 hs hd, wrap_u8, ← B_eq (x := x.toUInt8)]
  rw [UInt64.toNat_toUInt8]; omega
theorem conv_U32_B (hs : P.underlying s = some ds) (hd : P.underlying d = some (.int .u8)) (x : UInt32) : (convert s d (U32 x)).run P w = .ok (B x.toUInt8) w := by
  unfold U32
  rw [conv_int w .u8 hs hd, wrap_u8, ← B_eq (x := x.toUInt8)]
  rw [UInt32.toNat_toUInt8]; omega
end
section
variable {P : Program} (w : World) (a : Addr) (m : Mode)
theorem store_U32 (x : UInt32) : (store a (U32 x) m).run P w = stored P w a (U32 x) m := run_store P w a _ m rfl
theorem store_U64 (x : UInt64) : (store a (U64 x) m).run P w = stored P w a (U64 x) m := run_store P w a _ m rfl
theorem store_B (x : UInt8) : (store a (B x) m).run P w = stored P w a (B x) m := run_store P w a _ m rfl
end
/-- A whole array is stored over a block. -/
theorem op_store_arr {P : Program} {op : Oper} {a : Act} {w : World} {K : Act → World → Prop} {Q : Exit → Act → World → Prop} (ty : TypeId) (x y : Operand) (ho : op.op = .store ty x y)
    (g : Nat) (t : TypeId) (cur cells : Array Value) (hb : Blk w g t cur) (hx : a.eval x = .pointer (some ⟨g, 0, none⟩)) (hy : a.eval y = .agg cells)
    (hi : (P.info? ty).map (·.size) = some cells.size) (hc : cur.size = cells.size) (h1 : cells.all (·.oneCell') = true)
    (h : ∀ w', Blk w' g t cells → Turn [g] w w' → K (a.put op.dst undef) w') : op.wp P a w K Q := by
  have ht : w.there g 0 cells.size := fun j hj => by
    refine ⟨?_, hb.frozen _⟩
    rw [hb.cell, Nat.zero_add]
    simp [hc, hj]
  refine wp_store_mid ty x y ho g 0 cells hx hy ht hi h1 (h _ ?_ ?_)
  · have key : ∀ (vs : List Value) (o : Nat) (w : World) (cs : Array Value), Blk w g t cs → ∃ cs', Blk (w.setCells g o vs) g t cs' ∧ cs'.size = cs.size := by
      intro vs
      induction vs with
      | nil => intro o w cs h; exact ⟨cs, h, rfl⟩
      | cons v r ih =>
        intro o w cs h
        obtain ⟨cs', h1, h2⟩ := ih (o + 1) _ _ (h.set_ o v)
        exact ⟨cs', h1, by simpa using h2⟩
    obtain ⟨cs', h1, h2⟩ := key cells.toList 0 w cur hb
    have : cs' = cells := by
      apply Array.ext
      · omega
      · intro i hi1 hi2
        have e1 := h1.cell i
        have e2 := World.cell?_setCells_in g cells.toList 0 w (fun j hj => (ht j (by simpa using hj)).1) i (by simpa using hi2)
        rw [Nat.zero_add] at e2
        rw [e2] at e1
        simp only [Array.getElem?_eq_getElem hi1, Option.some.injEq] at e1
        rw [← e1]; simp
    rw [this] at h1; exact h1
  · have key : ∀ (vs : List Value) (o : Nat) (w0 w : World), Turn [g] w0 w → Turn [g] w0 (w.setCells g o vs) := by
      intro vs
      induction vs with
      | nil => intro o w0 w h; exact h
      | cons v r ih => intro o w0 w h; exact ih _ _ _ (h.setCell (.inl (by simp)) _)
    exact key _ _ _ _ (Turn.refl _ _)
theorem wpList_store_arr {P : Program} {ops : Array Oper} {rest : List Oper} {op : Oper} {a : Act} {w : World} {Q : Exit → Act → World → Prop} (hgd : op.guard = none) (ty : TypeId) (x y : Operand) (ho : op.op = .store ty x y)
    (g : Nat) (t : TypeId) (cur : Array Value) (cs : List Value) (hb : Blk w g t cur) (hx : a.eval x = .pointer (some ⟨g, 0, none⟩)) (hy : a.eval y = .agg cs.toArray)
    (hi : (P.info? ty).map (·.size) = some cs.length) (hc : cur.size = cs.length) (h1 : cs.all (·.oneCell') = true)
    (h : ∀ w', Blk w' g t cs.toArray → Turn [g] w w' → wpList P ops Q rest (a.put op.dst undef) w') : wpList P ops Q (op :: rest) a w :=
  wpList_plain hgd fun _ hK => op_store_arr ty x y ho g t cur cs.toArray hb hx hy hi hc (all_oneCell_toArray (List.all_eq_true.1 h1)) fun w' h2 h3 => hK _ _ (h w' h2 h3)
theorem wpList_build_at {P : Program} {ops : Array Oper} {rest : List Oper} {o : Oper} {a : Act} {w : World} {Q : Exit → Act → World → Prop} (hg : o.guard = none) (t : TypeId) (parts : Array (Nat × Operand)) (ho : o.op = .build t parts)
    (cells : Array Value) (hf : P.built t (parts.map fun (i, x) => (i, a.eval x)).toList = some cells)
    (h : wpList P ops Q rest (a.put o.dst (.agg cells)) w) : wpList P ops Q (o :: rest) a w :=
  wpList_build hg t parts ho (by rw [hf]; rfl) (by rw [hf]; exact h)
/-- A variable of a long array is made. -/
theorem wpList_alloc_at {P : Program} {ops : Array Oper} {rest : List Oper} {op : Oper} {a : Act} {w : World} {Q : Exit → Act → World → Prop} (hgd : op.guard = none) (t : TypeId) (ho : op.op = .alloc t)
    (cs : Array Value) (hrun : (Instr.alloc t true (.tuple #[])).run P w = .ok (.pointer (some ⟨w.heap.size, 0, none⟩)) (w.alloc (.cells cs t)))
    (h : wpList P ops Q rest (a.put op.dst (.pointer (some ⟨w.heap.size, 0, none⟩))) (w.alloc (.cells cs t))) : wpList P ops Q (op :: rest) a w :=
  wpList_plain hgd fun _ hK => by
    unfold Oper.wp execOp
    simp only [ho, Sem.run_bind, hrun, Result.andThen_ok]
    exact hK _ _ h
/-- A whole array is read out of a block. -/
theorem wpList_load_arr {P : Program} {ops : Array Oper} {rest : List Oper} {op : Oper} {a : Act} {w : World} {Q : Exit → Act → World → Prop} (hgd : op.guard = none) (ty : TypeId) (x : Operand) (ho : op.op = .load ty x)
    (g : Nat) (t : TypeId) (cur : Array Value) (hb : Blk w g t cur) (hx : a.eval x = .pointer (some ⟨g, 0, none⟩)) (d : TypeDesc) (hu : P.underlying ty = some d) (hd : d.isRow = true)
    (hi : (P.info? ty).map (·.size) = some cur.size) (h : wpList P ops Q rest (a.put op.dst (.agg cur)) w) : wpList P ops Q (op :: rest) a w := by
  refine wpList_load_mid hgd ty x ho g 0 hx cur.toList d (fun j v hv => ?_) hu hd (by rw [hi]; simp) (by simpa using h)
  rw [hb.cell, Nat.zero_add]; simpa using hv
/-- An element of an array that is a value. -/
theorem index_arr {P : Program} {t e : TypeId} {n k : Nat} {kd q : IntKind} {A : Array Value} {v : Value} (hu : P.underlying t = some (.array n e)) (he : P.underlying e = some (.int kd)) (hs : (P.info? e).map (·.size) = some 1) (hk : k < n) (hx : A[k]? = some v) (w : World) :
    (Instr.index t (.agg A) (.int q (k : Int))).run P w = .ok v w := by
  have h1 : (0 : Int) ≤ k ∧ (k : Int) < n := by omega
  cases hq : P.info? e with
  | none => simp [hq] at hs
  | some i =>
    have hsz : i.size = 1 := by simpa [hq] using hs
    simp [Instr.index, asIntOf, Sem.run_bind, run_underlying hu w, h1, sizeOf, typeInfo, hq, hsz, part, isAgg, run_underlying he w, hx]
    intro hcon; omega
section
variable {P : Program} (w : World) (a : Addr)
theorem storeCells_one (v : Value) (hv : v.oneCell' = true) : (storeCells a [v]).run P w = stored P w a v .plain := by
  have ha : a.add 0 = a := by unfold Addr.add; split <;> simp_all
  unfold storeCells
  rw [Sem.run_bind, ha]
  have := run_store P w a v .plain hv
  rw [show (store a v).run P w = stored P w a v .plain from this]
  cases h : stored P w a v .plain <;> simp [Result.andThen, storeCells]
theorem storeCells_U32 (x : UInt32) : (storeCells a [U32 x]).run P w = stored P w a (U32 x) .plain := storeCells_one w a _ rfl
theorem storeCells_U64 (x : UInt64) : (storeCells a [U64 x]).run P w = stored P w a (U64 x) .plain := storeCells_one w a _ rfl
theorem storeCells_B (x : UInt8) : (storeCells a [B x]).run P w = stored P w a (B x) .plain := storeCells_one w a _ rfl
end
attribute [go_sem ↓] storeCells_U32 storeCells_U64 storeCells_B
theorem cells_B (x : UInt8) : (B x).cells = #[B x] := rfl
theorem cells_U32 (x : UInt32) : (U32 x).cells = #[U32 x] := rfl
theorem cells_U64 (x : UInt64) : (U64 x).cells = #[U64 x] := rfl
theorem mcells_B (x : UInt8) : Value.cells.match_1 (fun _ => Array Value) (B x) (fun cs => cs) (fun v => #[v]) = #[B x] := rfl
theorem mcells_U32 (x : UInt32) : Value.cells.match_1 (fun _ => Array Value) (U32 x) (fun cs => cs) (fun v => #[v]) = #[U32 x] := rfl
theorem mcells_U64 (x : UInt64) : Value.cells.match_1 (fun _ => Array Value) (U64 x) (fun cs => cs) (fun v => #[v]) = #[U64 x] := rfl
attribute [go_sem] mcells_B mcells_U32 mcells_U64
attribute [go_sem ↓] cells_B cells_U32 cells_U64
attribute [go_sem] add_U32 addI_U32 and_U32 or_U32 xor_U32 not_U32 shrI_U32 shlI_U32 add_U64 and_U64 or_U64 xor_U64 not_U64 shrI_U64 shlI_U64 xor_B xorI_B store_U32 store_U64 store_B
@[go_sem] theorem Tryd.conv_8_32 (w : World) (x : UInt8) : (convert 5 75 (B x)).run Tryd.prog w = .ok (U32 x.toUInt32) w := conv_B_U32 w Tryd.underlying5 Tryd.underlying75 x
@[go_sem] theorem Tryd.conv_8_64 (w : World) (x : UInt8) : (convert 5 78 (B x)).run Tryd.prog w = .ok (U64 x.toUInt64) w := conv_B_U64 w Tryd.underlying5 Tryd.underlying78 x
@[go_sem] theorem Tryd.conv_32_8 (w : World) (x : UInt32) : (convert 75 5 (U32 x)).run Tryd.prog w = .ok (B x.toUInt8) w := conv_U32_B w Tryd.underlying75 Tryd.underlying5 x
@[go_sem] theorem Tryd.conv_64_8 (w : World) (x : UInt64) : (convert 78 5 (U64 x)).run Tryd.prog w = .ok (B x.toUInt8) w := conv_U64_B w Tryd.underlying78 Tryd.underlying5 x
@[go_sem] theorem Tryd.conv_32_64 (w : World) (x : UInt32) : (convert 75 78 (U32 x)).run Tryd.prog w = .ok (U64 x.toUInt64) w := conv_U32_U64 w Tryd.underlying75 Tryd.underlying78 x
@[go_sem] theorem Tryd.conv_64_32 (w : World) (x : UInt64) : (convert 78 75 (U64 x)).run Tryd.prog w = .ok (U32 x.toUInt32) w := conv_U64_U32 w Tryd.underlying78 Tryd.underlying75 x
end Go.Proofs.YtddemlajfbagdaaDoor
