/-
  Numbers of 32 and 64 bits, and bytes, as the walk meets them: what each operation makes of them. Over any program; the conversions at this one.
-/
import Derived.Test.YtgjnmpjimhbfgaaGreatDoorBase
import Derived.Test.YtgjnmpjimhbfgaaGreatDoorChecked
import Derived.Deep.MidRow
namespace Go.Proofs.YtgjnmpjimhbfgaaGreatDoor
set_option maxRecDepth 100000
open Go.RowKit
def U32 (x : UInt32) : Value := .int .u32 (x.toNat : Int)
def U64 (x : UInt64) : Value := .int .u64 (x.toNat : Int)
theorem wrap_u32 (n : Int) : IntKind.u32.wrap n = n % 4294967296 := by simp [IntKind.wrap, IntKind.bits, IntKind.signed]
theorem wrap_u64 (n : Int) : IntKind.u64.wrap n = n % 18446744073709551616 := by simp [IntKind.wrap, IntKind.bits, IntKind.signed]
theorem wrap_u8 (n : Int) : IntKind.u8.wrap n = n % 256 := by simp [IntKind.wrap, IntKind.bits, IntKind.signed]
theorem U32_eq {x : UInt32} {n : Int} (h : (x.toNat : Int) = n) : U32 x = .int .u32 n := by unfold U32; rw [h]
theorem U64_eq {x : UInt64} {n : Int} (h : (x.toNat : Int) = n) : U64 x = .int .u64 n := by unfold U64; rw [h]
theorem B_eq {x : UInt8} {n : Int} (h : (x.toNat : Int) = n) : B x = .int .u8 n := by unfold B; rw [h]
section
variable (t : TypeId)
theorem add_U32 (x y : UInt32) : binOp .add t (U32 x) (U32 y) = pure (U32 (x + y)) := by
 show (pure (.int .u32 (IntKind.u32.wrap (x.toNat + y.toNat))) : Sem Value) = _
 rw [wrap_u32, ← U32_eq]
 rw [UInt32.toNat_add]; omega
theorem add_U32_lit (x : UInt32) (n : Nat) : binOp .add t (U32 x) (.int .u32 n) = pure (U32 (x + UInt32.ofNat n)) := by
 show (pure (.int .u32 (IntKind.u32.wrap (x.toNat + n))) : Sem Value) = _
 rw [wrap_u32, ← U32_eq]
 rw [UInt32.toNat_add, UInt32.toNat_ofNat']; omega
theorem and_U32 (x y : UInt32) : binOp .and t (U32 x) (U32 y) = pure (U32 (x &&& y)) := by
 show (pure (.int .u32 (IntKind.u32.wrap (BitVec.toNat (BitVec.ofInt 32 (x.toNat : Int) &&& BitVec.ofInt 32 (y.toNat : Int))))) : Sem Value) = _
 rw [wrap_u32, ← U32_eq]
 simp only [BitVec.ofInt_natCast, UInt32.toNat_and, BitVec.toNat_and, BitVec.toNat_ofNat]
 have := x.toNat_lt; have := y.toNat_lt
 rw [Nat.mod_eq_of_lt (by omega), Nat.mod_eq_of_lt (by omega)]
 have : x.toNat &&& y.toNat < 2 ^ 32 := Nat.and_lt_two_pow _ (by omega)
 omega
theorem or_U32 (x y : UInt32) : binOp .or t (U32 x) (U32 y) = pure (U32 (x ||| y)) := by
 show (pure (.int .u32 (IntKind.u32.wrap (BitVec.toNat (BitVec.ofInt 32 (x.toNat : Int) ||| BitVec.ofInt 32 (y.toNat : Int))))) : Sem Value) = _
 rw [wrap_u32, ← U32_eq]
 simp only [BitVec.ofInt_natCast, UInt32.toNat_or, BitVec.toNat_or, BitVec.toNat_ofNat]
 have := x.toNat_lt; have := y.toNat_lt
 rw [Nat.mod_eq_of_lt (by omega), Nat.mod_eq_of_lt (by omega)]
 have : x.toNat ||| y.toNat < 2 ^ 32 := Nat.or_lt_two_pow (by omega) (by omega)
 omega
theorem xor_U32 (x y : UInt32) : binOp .xor t (U32 x) (U32 y) = pure (U32 (x ^^^ y)) := by
 show (pure (.int .u32 (IntKind.u32.wrap (BitVec.toNat (BitVec.ofInt 32 (x.toNat : Int) ^^^ BitVec.ofInt 32 (y.toNat : Int))))) : Sem Value) = _
 rw [wrap_u32, ← U32_eq]
 simp only [BitVec.ofInt_natCast, UInt32.toNat_xor, BitVec.toNat_xor, BitVec.toNat_ofNat]
 have := x.toNat_lt; have := y.toNat_lt
 rw [Nat.mod_eq_of_lt (by omega), Nat.mod_eq_of_lt (by omega)]
 have : x.toNat ^^^ y.toNat < 2 ^ 32 := Nat.xor_lt_two_pow (by omega) (by omega)
 omega
theorem not_U32 (x : UInt32) : Op.unary .xor (U32 x) = pure (U32 (~~~x)) := by
 show (pure (.int .u32 (IntKind.u32.wrap (BitVec.toNat (BitVec.ofInt 32 (4294967295 : Int) ^^^ BitVec.ofInt 32 (x.toNat : Int))))) : Sem Value) = _
 rw [wrap_u32, ← U32_eq]
 have e : BitVec.ofInt 32 (4294967295 : Int) ^^^ BitVec.ofInt 32 (x.toNat : Int) = ~~~ x.toBitVec := by
  rw [BitVec.ofInt_natCast]
  have : BitVec.ofNat 32 x.toNat = x.toBitVec := by simp
  rw [this, show BitVec.ofInt 32 4294967295 = BitVec.allOnes 32 from by decide, BitVec.allOnes_xor]
 rw [e]
 have : (~~~ x).toNat = (~~~ x.toBitVec).toNat := rfl
 rw [this]
 have := (~~~ x.toBitVec).isLt
 omega
theorem shr_U32 (x : UInt32) (k : IntKind) (n : Nat) (h : n < 32) : binOp .shr t (U32 x) (.int k n) = pure (U32 (x >>> UInt32.ofNat n)) := by
 show Op.shift .shr .u32 (x.toNat : Int) k (n : Int) = _
 unfold Op.shift
 rw [if_neg (by omega)]
 simp only [Int.toNat_natCast, IntKind.bits, Nat.min_eq_left (Nat.le_of_lt h)]
 rw [← U32_eq]
 rw [UInt32.toNat_shiftRight, UInt32.toNat_ofNat', Nat.mod_eq_of_lt (a := n) (by omega), Nat.mod_eq_of_lt h, Nat.shiftRight_eq_div_pow]
 rw [Int.fdiv_eq_ediv_of_nonneg _ (by exact_mod_cast Nat.zero_le _)]
 simp
theorem shl_U32 (x : UInt32) (k : IntKind) (n : Nat) (h : n < 32) : binOp .shl t (U32 x) (.int k n) = pure (U32 (x <<< UInt32.ofNat n)) := by
 show Op.shift .shl .u32 (x.toNat : Int) k (n : Int) = _
 unfold Op.shift
 rw [if_neg (by omega)]
 simp only [Int.toNat_natCast, IntKind.bits, Nat.min_eq_left (Nat.le_of_lt h)]
 rw [wrap_u32, ← U32_eq]
 rw [UInt32.toNat_shiftLeft, UInt32.toNat_ofNat', Nat.mod_eq_of_lt (a := n) (by omega), Nat.mod_eq_of_lt h, Nat.shiftLeft_eq]
 simp
theorem shrI_U32 (x : UInt32) (k : IntKind) (n : Int) (h0 : 0 ≤ n) (h : n < 32) : binOp .shr t (U32 x) (.int k n) = pure (U32 (x >>> UInt32.ofNat n.toNat)) := by
 obtain ⟨m, rfl⟩ := Int.eq_ofNat_of_zero_le h0
 exact shr_U32 t x k m (by omega)
theorem shlI_U32 (x : UInt32) (k : IntKind) (n : Int) (h0 : 0 ≤ n) (h : n < 32) : binOp .shl t (U32 x) (.int k n) = pure (U32 (x <<< UInt32.ofNat n.toNat)) := by
 obtain ⟨m, rfl⟩ := Int.eq_ofNat_of_zero_le h0
 exact shl_U32 t x k m (by omega)
theorem addI_U32 (x : UInt32) (n : Int) (h0 : 0 ≤ n) : binOp .add t (U32 x) (.int .u32 n) = pure (U32 (x + UInt32.ofNat n.toNat)) := by
 obtain ⟨m, rfl⟩ := Int.eq_ofNat_of_zero_le h0
 exact add_U32_lit t x m
theorem add_U64 (x y : UInt64) : binOp .add t (U64 x) (U64 y) = pure (U64 (x + y)) := by
 show (pure (.int .u64 (IntKind.u64.wrap (x.toNat + y.toNat))) : Sem Value) = _
 rw [wrap_u64, ← U64_eq]
 rw [UInt64.toNat_add]; omega
theorem and_U64 (x y : UInt64) : binOp .and t (U64 x) (U64 y) = pure (U64 (x &&& y)) := by
 show (pure (.int .u64 (IntKind.u64.wrap (BitVec.toNat (BitVec.ofInt 64 (x.toNat : Int) &&& BitVec.ofInt 64 (y.toNat : Int))))) : Sem Value) = _
 rw [wrap_u64, ← U64_eq]
 simp only [BitVec.ofInt_natCast, UInt64.toNat_and, BitVec.toNat_and, BitVec.toNat_ofNat]
 have := x.toNat_lt; have := y.toNat_lt
 rw [Nat.mod_eq_of_lt (by omega), Nat.mod_eq_of_lt (by omega)]
 have : x.toNat &&& y.toNat < 2 ^ 64 := Nat.and_lt_two_pow _ (by omega)
 omega
theorem or_U64 (x y : UInt64) : binOp .or t (U64 x) (U64 y) = pure (U64 (x ||| y)) := by
 show (pure (.int .u64 (IntKind.u64.wrap (BitVec.toNat (BitVec.ofInt 64 (x.toNat : Int) ||| BitVec.ofInt 64 (y.toNat : Int))))) : Sem Value) = _
 rw [wrap_u64, ← U64_eq]
 simp only [BitVec.ofInt_natCast, UInt64.toNat_or, BitVec.toNat_or, BitVec.toNat_ofNat]
 have := x.toNat_lt; have := y.toNat_lt
 rw [Nat.mod_eq_of_lt (by omega), Nat.mod_eq_of_lt (by omega)]
 have : x.toNat ||| y.toNat < 2 ^ 64 := Nat.or_lt_two_pow (by omega) (by omega)
 omega
theorem xor_U64 (x y : UInt64) : binOp .xor t (U64 x) (U64 y) = pure (U64 (x ^^^ y)) := by
 show (pure (.int .u64 (IntKind.u64.wrap (BitVec.toNat (BitVec.ofInt 64 (x.toNat : Int) ^^^ BitVec.ofInt 64 (y.toNat : Int))))) : Sem Value) = _
 rw [wrap_u64, ← U64_eq]
 simp only [BitVec.ofInt_natCast, UInt64.toNat_xor, BitVec.toNat_xor, BitVec.toNat_ofNat]
 have := x.toNat_lt; have := y.toNat_lt
 rw [Nat.mod_eq_of_lt (by omega), Nat.mod_eq_of_lt (by omega)]
 have : x.toNat ^^^ y.toNat < 2 ^ 64 := Nat.xor_lt_two_pow (by omega) (by omega)
 omega
theorem not_U64 (x : UInt64) : Op.unary .xor (U64 x) = pure (U64 (~~~x)) := by
 show (pure (.int .u64 (IntKind.u64.wrap (BitVec.toNat (BitVec.ofInt 64 (18446744073709551615 : Int) ^^^ BitVec.ofInt 64 (x.toNat : Int))))) : Sem Value) = _
 rw [wrap_u64, ← U64_eq]
 have e : BitVec.ofInt 64 (18446744073709551615 : Int) ^^^ BitVec.ofInt 64 (x.toNat : Int) = ~~~ x.toBitVec := by
  rw [BitVec.ofInt_natCast]
  have : BitVec.ofNat 64 x.toNat = x.toBitVec := by simp
  rw [this, show BitVec.ofInt 64 18446744073709551615 = BitVec.allOnes 64 from by decide, BitVec.allOnes_xor]
 rw [e]
 have : (~~~ x).toNat = (~~~ x.toBitVec).toNat := rfl
 rw [this]
 have := (~~~ x.toBitVec).isLt
 omega
theorem shr_U64 (x : UInt64) (k : IntKind) (n : Nat) (h : n < 64) : binOp .shr t (U64 x) (.int k n) = pure (U64 (x >>> UInt64.ofNat n)) := by
 show Op.shift .shr .u64 (x.toNat : Int) k (n : Int) = _
 unfold Op.shift
 rw [if_neg (by omega)]
 simp only [Int.toNat_natCast, IntKind.bits, Nat.min_eq_left (Nat.le_of_lt h)]
 rw [← U64_eq]
 rw [UInt64.toNat_shiftRight, UInt64.toNat_ofNat', Nat.mod_eq_of_lt (a := n) (by omega), Nat.mod_eq_of_lt h, Nat.shiftRight_eq_div_pow]
 rw [Int.fdiv_eq_ediv_of_nonneg _ (by exact_mod_cast Nat.zero_le _)]
 simp
theorem shl_U64 (x : UInt64) (k : IntKind) (n : Nat) (h : n < 64) : binOp .shl t (U64 x) (.int k n) = pure (U64 (x <<< UInt64.ofNat n)) := by
 show Op.shift .shl .u64 (x.toNat : Int) k (n : Int) = _
 unfold Op.shift
 rw [if_neg (by omega)]
 simp only [Int.toNat_natCast, IntKind.bits, Nat.min_eq_left (Nat.le_of_lt h)]
 rw [wrap_u64, ← U64_eq]
 rw [UInt64.toNat_shiftLeft, UInt64.toNat_ofNat', Nat.mod_eq_of_lt (a := n) (by omega), Nat.mod_eq_of_lt h, Nat.shiftLeft_eq]
 simp
theorem shrI_U64 (x : UInt64) (k : IntKind) (n : Int) (h0 : 0 ≤ n) (h : n < 64) : binOp .shr t (U64 x) (.int k n) = pure (U64 (x >>> UInt64.ofNat n.toNat)) := by
 obtain ⟨m, rfl⟩ := Int.eq_ofNat_of_zero_le h0
 exact shr_U64 t x k m (by omega)
theorem shlI_U64 (x : UInt64) (k : IntKind) (n : Int) (h0 : 0 ≤ n) (h : n < 64) : binOp .shl t (U64 x) (.int k n) = pure (U64 (x <<< UInt64.ofNat n.toNat)) := by
 obtain ⟨m, rfl⟩ := Int.eq_ofNat_of_zero_le h0
 exact shl_U64 t x k m (by omega)
theorem xor_B (x y : UInt8) : binOp .xor t (B x) (B y) = pure (B (x ^^^ y)) := by
 show (pure (.int .u8 (IntKind.u8.wrap (BitVec.toNat (BitVec.ofInt 8 (x.toNat : Int) ^^^ BitVec.ofInt 8 (y.toNat : Int))))) : Sem Value) = _
 rw [wrap_u8, ← B_eq]
 simp only [BitVec.ofInt_natCast, UInt8.toNat_xor, BitVec.toNat_xor, BitVec.toNat_ofNat]
 have := x.toNat_lt; have := y.toNat_lt
 rw [Nat.mod_eq_of_lt (by omega), Nat.mod_eq_of_lt (by omega)]
 have : x.toNat ^^^ y.toNat < 2 ^ 8 := Nat.xor_lt_two_pow (by omega) (by omega)
 omega
theorem xorI_B (x : UInt8) (n : Int) (h0 : 0 ≤ n) : binOp .xor t (B x) (.int .u8 n) = pure (B (x ^^^ UInt8.ofNat n.toNat)) := by
 obtain ⟨m, rfl⟩ := Int.eq_ofNat_of_zero_le h0
 show (pure (.int .u8 (IntKind.u8.wrap (BitVec.toNat (BitVec.ofInt 8 (x.toNat : Int) ^^^ BitVec.ofInt 8 (m : Int))))) : Sem Value) = _
 rw [wrap_u8, ← B_eq]
 simp only [Int.toNat_natCast, BitVec.ofInt_natCast, UInt8.toNat_xor, BitVec.toNat_xor, BitVec.toNat_ofNat, UInt8.toNat_ofNat']
 have := x.toNat_lt
 rw [Nat.mod_eq_of_lt (a := x.toNat) (by omega)]
 have : x.toNat ^^^ (m % 2 ^ 8) < 2 ^ 8 := Nat.xor_lt_two_pow (by omega) (by omega)
 omega
end
section
variable {P : Program} {s d : TypeId} {ds : TypeDesc} (w : World)
theorem conv_int (k : IntKind) (hs : P.underlying s = some ds) (hd : P.underlying d = some (.int k)) (q : IntKind) (n : Int) : (convert s d (.int q n)).run P w = .ok (.int k (k.wrap n)) w := by
 unfold convert
 rw [Sem.run_bind, run_underlying hs w, Result.andThen_ok, Sem.run_bind, run_underlying hd w, Result.andThen_ok]
 cases ds <;> rfl
theorem conv_B_U32 (hs : P.underlying s = some ds) (hd : P.underlying d = some (.int .u32)) (x : UInt8) : (convert s d (B x)).run P w = .ok (U32 x.toUInt32) w := by
 unfold B
 rw [conv_int w .u32 hs hd, wrap_u32, ← U32_eq (x := x.toUInt32)]
 have := x.toNat_lt; rw [UInt8.toNat_toUInt32]; omega
theorem conv_B_U64 (hs : P.underlying s = some ds) (hd : P.underlying d = some (.int .u64)) (x : UInt8) : (convert s d (B x)).run P w = .ok (U64 x.toUInt64) w := by
 unfold B
 rw [conv_int w .u64 hs hd, wrap_u64, ← U64_eq (x := x.toUInt64)]
 have := x.toNat_lt; rw [UInt8.toNat_toUInt64]; omega
theorem conv_U32_U64 (hs : P.underlying s = some ds) (hd : P.underlying d = some (.int .u64)) (x : UInt32) : (convert s d (U32 x)).run P w = .ok (U64 x.toUInt64) w := by
 unfold U32
 rw [conv_int w .u64 hs hd, wrap_u64, ← U64_eq (x := x.toUInt64)]
 have := x.toNat_lt; rw [UInt32.toNat_toUInt64]; omega
theorem conv_U64_U32 (hs : P.underlying s = some ds) (hd : P.underlying d = some (.int .u32)) (x : UInt64) : (convert s d (U64 x)).run P w = .ok (U32 x.toUInt32) w := by
 unfold U64
 rw [conv_int w .u32 hs hd, wrap_u32, ← U32_eq (x := x.toUInt32)]
 rw [UInt64.toNat_toUInt32]; omega
theorem conv_U64_B (hs : P.underlying s = some ds) (hd : P.underlying d = some (.int .u8)) (x : UInt64) : (convert s d (U64 x)).run P w = .ok (B x.toUInt8) w := by
 unfold U64
 rw [conv_int w .u8 hs hd, wrap_u8, ← B_eq (x := x.toUInt8)]
 rw [UInt64.toNat_toUInt8]; omega
theorem conv_U32_B (hs : P.underlying s = some ds) (hd : P.underlying d = some (.int .u8)) (x : UInt32) : (convert s d (U32 x)).run P w = .ok (B x.toUInt8) w := by
 unfold U32
 rw [conv_int w .u8 hs hd, wrap_u8, ← B_eq (x := x.toUInt8)]
 rw [UInt32.toNat_toUInt8]; omega
end
section
variable {P : Program} (w : World) (a : Addr) (m : Mode)
theorem store_U32 (x : UInt32) : (store a (U32 x) m).run P w = stored P w a (U32 x) m := run_store P w a _ m rfl
theorem store_U64 (x : UInt64) : (store a (U64 x) m).run P w = stored P w a (U64 x) m := run_store P w a _ m rfl
theorem store_B (x : UInt8) : (store a (B x) m).run P w = stored P w a (B x) m := run_store P w a _ m rfl
end
theorem op_store_arr {P : Program} {op : Oper} {a : Act} {w : World} {K : Act → World → Prop} {Q : Exit → Act → World → Prop} (ty : TypeId) (x y : Operand) (ho : op.op = .store ty x y)
  (g : Nat) (t : TypeId) (cur cells : Array Value) (hb : Blk w g t cur) (hx : a.eval x = .pointer (some ⟨g, 0, none⟩)) (hy : a.eval y = .agg cells)
  (hi : (P.info? ty).map (·.size) = some cells.size) (hc : cur.size = cells.size) (h1 : cells.all (·.oneCell') = true)
  (h : ∀ w', Blk w' g t cells → Turn [g] w w' → K (a.put op.dst undef) w') : op.wp P a w K Q := by
 have ht : w.there g 0 cells.size := fun j hj => by
  refine ⟨?_, hb.frozen _⟩
  rw [hb.cell, Nat.zero_add]
  simp [hc, hj]
 refine wp_store_mid ty x y ho g 0 cells hx hy ht hi h1 (h _ ?_ ?_)
 ·have key : ∀ (vs : List Value) (o : Nat) (w : World) (cs : Array Value), Blk w g t cs → ∃ cs', Blk (w.setCells g o vs) g t cs' ∧ cs'.size = cs.size := by
   intro vs
   induction vs with
   | nil => intro o w cs h; exact ⟨cs, h, rfl⟩
   | cons v r ih =>
    intro o w cs h
    obtain ⟨cs', h1, h2⟩ := ih (o + 1) _ _ (h.set_ o v)
    exact ⟨cs', h1, by simpa using h2⟩
  obtain ⟨cs', h1, h2⟩ := key cells.toList 0 w cur hb
  have : cs' = cells := by
   apply Array.ext
   ·omega
   ·intro i hi1 hi2
    have e1 := h1.cell i
    have e2 := World.cell?_setCells_in g cells.toList 0 w (fun j hj => (ht j (by simpa using hj)).1) i (by simpa using hi2)
    rw [Nat.zero_add] at e2
    rw [e2] at e1
    simp only [Array.getElem?_eq_getElem hi1, Option.some.injEq] at e1
    rw [← e1]; simp
  rw [this] at h1; exact h1
 ·have key : ∀ (vs : List Value) (o : Nat) (w0 w : World), Turn [g] w0 w → Turn [g] w0 (w.setCells g o vs) := by
   intro vs
   induction vs with
   | nil => intro o w0 w h; exact h
   | cons v r ih => intro o w0 w h; exact ih _ _ _ (h.setCell (.inl (by simp)) _)
  exact key _ _ _ _ (Turn.refl _ _)
theorem wpList_store_arr {P : Program} {ops : Array Oper} {rest : List Oper} {op : Oper} {a : Act} {w : World} {Q : Exit → Act → World → Prop} (hgd : op.guard = none) (ty : TypeId) (x y : Operand) (ho : op.op = .store ty x y)
  (g : Nat) (t : TypeId) (cur : Array Value) (cs : List Value) (hb : Blk w g t cur) (hx : a.eval x = .pointer (some ⟨g, 0, none⟩)) (hy : a.eval y = .agg cs.toArray)
  (hi : (P.info? ty).map (·.size) = some cs.length) (hc : cur.size = cs.length) (h1 : cs.all (·.oneCell') = true)
  (h : ∀ w', Blk w' g t cs.toArray → Turn [g] w w' → wpList P ops Q rest (a.put op.dst undef) w') : wpList P ops Q (op :: rest) a w :=
 wpList_plain hgd fun _ hK => op_store_arr ty x y ho g t cur cs.toArray hb hx hy hi hc (all_oneCell_toArray (List.all_eq_true.1 h1)) fun w' h2 h3 => hK _ _ (h w' h2 h3)
theorem wpList_build_at {P : Program} {ops : Array Oper} {rest : List Oper} {o : Oper} {a : Act} {w : World} {Q : Exit → Act → World → Prop} (hg : o.guard = none) (t : TypeId) (parts : Array (Nat × Operand)) (ho : o.op = .build t parts)
  (cells : Array Value) (hf : P.built t (parts.map fun (i, x) => (i, a.eval x)).toList = some cells)
  (h : wpList P ops Q rest (a.put o.dst (.agg cells)) w) : wpList P ops Q (o :: rest) a w :=
 wpList_build hg t parts ho (by rw [hf]; rfl) (by rw [hf]; exact h)
theorem wpList_alloc_at {P : Program} {ops : Array Oper} {rest : List Oper} {op : Oper} {a : Act} {w : World} {Q : Exit → Act → World → Prop} (hgd : op.guard = none) (t : TypeId) (ho : op.op = .alloc t)
  (cs : Array Value) (hrun : (Instr.alloc t true (.tuple #[])).run P w = .ok (.pointer (some ⟨w.heap.size, 0, none⟩)) (w.alloc (.cells cs t)))
  (h : wpList P ops Q rest (a.put op.dst (.pointer (some ⟨w.heap.size, 0, none⟩))) (w.alloc (.cells cs t))) : wpList P ops Q (op :: rest) a w :=
 wpList_plain hgd fun _ hK => by
  unfold Oper.wp execOp
  simp only [ho, Sem.run_bind, hrun, Result.andThen_ok]
  exact hK _ _ h
theorem wpList_load_arr {P : Program} {ops : Array Oper} {rest : List Oper} {op : Oper} {a : Act} {w : World} {Q : Exit → Act → World → Prop} (hgd : op.guard = none) (ty : TypeId) (x : Operand) (ho : op.op = .load ty x)
  (g : Nat) (t : TypeId) (cur : Array Value) (hb : Blk w g t cur) (hx : a.eval x = .pointer (some ⟨g, 0, none⟩)) (d : TypeDesc) (hu : P.underlying ty = some d) (hd : d.isRow = true)
  (hi : (P.info? ty).map (·.size) = some cur.size) (h : wpList P ops Q rest (a.put op.dst (.agg cur)) w) : wpList P ops Q (op :: rest) a w := by
 refine wpList_load_mid hgd ty x ho g 0 hx cur.toList d (fun j v hv => ?_) hu hd (by rw [hi]; simp) (by simpa using h)
 rw [hb.cell, Nat.zero_add]; simpa using hv
theorem index_arr {P : Program} {t e : TypeId} {n k : Nat} {kd q : IntKind} {A : Array Value} {v : Value} (hu : P.underlying t = some (.array n e)) (he : P.underlying e = some (.int kd)) (hs : (P.info? e).map (·.size) = some 1) (hk : k < n) (hx : A[k]? = some v) (w : World) :
  (Instr.index t (.agg A) (.int q (k : Int))).run P w = .ok v w := by
 have h1 : (0 : Int) ≤ k ∧ (k : Int) < n := by omega
 cases hq : P.info? e with
 | none => simp [hq] at hs
 | some i =>
  have hsz : i.size = 1 := by simpa [hq] using hs
  simp [Instr.index, asIntOf, Sem.run_bind, run_underlying hu w, h1, sizeOf, typeInfo, hq, hsz, part, isAgg, run_underlying he w, hx]
  intro hcon; omega
section
variable {P : Program} (w : World) (a : Addr)
theorem storeCells_one (v : Value) (hv : v.oneCell' = true) : (storeCells a [v]).run P w = stored P w a v .plain := by
 have ha : a.add 0 = a := by unfold Addr.add; split <;> simp_all
 unfold storeCells
 rw [Sem.run_bind, ha]
 have := run_store P w a v .plain hv
 rw [show (store a v).run P w = stored P w a v .plain from this]
 cases h : stored P w a v .plain <;> simp [Result.andThen, storeCells]
theorem storeCells_U32 (x : UInt32) : (storeCells a [U32 x]).run P w = stored P w a (U32 x) .plain := storeCells_one w a _ rfl
theorem storeCells_U64 (x : UInt64) : (storeCells a [U64 x]).run P w = stored P w a (U64 x) .plain := storeCells_one w a _ rfl
theorem storeCells_B (x : UInt8) : (storeCells a [B x]).run P w = stored P w a (B x) .plain := storeCells_one w a _ rfl
end
attribute [go_sem ↓] storeCells_U32 storeCells_U64 storeCells_B
theorem cells_B (x : UInt8) : (B x).cells = #[B x] := rfl
theorem cells_U32 (x : UInt32) : (U32 x).cells = #[U32 x] := rfl
theorem cells_U64 (x : UInt64) : (U64 x).cells = #[U64 x] := rfl
theorem mcells_B (x : UInt8) : Value.cells.match_1 (fun _ => Array Value) (B x) (fun cs => cs) (fun v => #[v]) = #[B x] := rfl
theorem mcells_U32 (x : UInt32) : Value.cells.match_1 (fun _ => Array Value) (U32 x) (fun cs => cs) (fun v => #[v]) = #[U32 x] := rfl
theorem mcells_U64 (x : UInt64) : Value.cells.match_1 (fun _ => Array Value) (U64 x) (fun cs => cs) (fun v => #[v]) = #[U64 x] := rfl
attribute [go_sem] mcells_B mcells_U32 mcells_U64
attribute [go_sem ↓] cells_B cells_U32 cells_U64
attribute [go_sem] add_U32 addI_U32 and_U32 or_U32 xor_U32 not_U32 shrI_U32 shlI_U32 add_U64 and_U64 or_U64 xor_U64 not_U64 shrI_U64 shlI_U64 xor_B xorI_B store_U32 store_U64 store_B
@[go_sem] theorem Tryz.conv_8_32 (w : World) (x : UInt8) : (convert 5 115 (B x)).run Tryz.prog w = .ok (U32 x.toUInt32) w := conv_B_U32 w Tryz.underlying5 Tryz.underlying115 x
@[go_sem] theorem Tryz.conv_8_64 (w : World) (x : UInt8) : (convert 5 131 (B x)).run Tryz.prog w = .ok (U64 x.toUInt64) w := conv_B_U64 w Tryz.underlying5 Tryz.underlying131 x
@[go_sem] theorem Tryz.conv_32_8 (w : World) (x : UInt32) : (convert 115 5 (U32 x)).run Tryz.prog w = .ok (B x.toUInt8) w := conv_U32_B w Tryz.underlying115 Tryz.underlying5 x
@[go_sem] theorem Tryz.conv_64_8 (w : World) (x : UInt64) : (convert 131 5 (U64 x)).run Tryz.prog w = .ok (B x.toUInt8) w := conv_U64_B w Tryz.underlying131 Tryz.underlying5 x
@[go_sem] theorem Tryz.conv_32_64 (w : World) (x : UInt32) : (convert 115 131 (U32 x)).run Tryz.prog w = .ok (U64 x.toUInt64) w := conv_U32_U64 w Tryz.underlying115 Tryz.underlying131 x
@[go_sem] theorem Tryz.conv_64_32 (w : World) (x : UInt64) : (convert 131 115 (U64 x)).run Tryz.prog w = .ok (U32 x.toUInt32) w := conv_U64_U32 w Tryz.underlying131 Tryz.underlying115 x
end Go.Proofs.YtgjnmpjimhbfgaaGreatDoor
namespace Go.Proofs.YtgjnmpjimhbfgaaGreatDoor
set_option maxRecDepth 100000
open Go.RowKit
def rotl32 (x : UInt32) (n : Nat) : UInt32 := x <<< UInt32.ofNat n ||| x >>> UInt32.ofNat (32 - n)
def rotl64 (x : UInt64) (n : Nat) : UInt64 := x <<< UInt64.ofNat n ||| x >>> UInt64.ofNat (64 - n)
theorem and_mask (k : Int) (m : Nat) (j : Nat) (hj : m = 2 ^ j) (hm : m ≤ 64) (h0 : 0 < m) :
  BitVec.toNat (BitVec.ofInt 64 (k % 18446744073709551616) &&& BitVec.ofInt 64 ((m : Int) - 1)) = (k % m).toNat := by
 rw [BitVec.toNat_and, BitVec.toNat_ofInt, BitVec.toNat_ofInt]
 have e1 : (((m : Int) - 1) % ((2 ^ 64 : Nat) : Int)).toNat = 2 ^ j - 1 := by
  rw [← hj]; omega
 rw [e1, Nat.and_two_pow_sub_one_eq_mod, ← hj]
 have : (k % 18446744073709551616 % ((2 ^ 64 : Nat) : Int)) = k % 18446744073709551616 := by omega
 rw [this]
 have hd : ((m : Int)) ∣ 18446744073709551616 := by
  have hj6 : j ≤ 6 := by
   rcases Nat.lt_or_ge 6 j with h | h
   ·have : 2 ^ 7 ≤ 2 ^ j := Nat.pow_le_pow_right (by omega) h
    omega
   ·exact h
  subst hj
  have : j = 0 ∨ j = 1 ∨ j = 2 ∨ j = 3 ∨ j = 4 ∨ j = 5 ∨ j = 6 := by omega
  rcases this with rfl | rfl | rfl | rfl | rfl | rfl | rfl <;> decide
 have h2 := Int.emod_emod_of_dvd k hd
 have h3 : 0 ≤ k % 18446744073709551616 := by omega
 obtain ⟨u, hu⟩ := Int.eq_ofNat_of_zero_le h3
 rw [hu] at h2 ⊢
 rw [Int.toNat_natCast]
 omega
theorem rot32_any (x : UInt32) (k : Int) (n : Nat) (w : World) (hk : k % 32 = n) (h0 : 0 < n) :
  Calls Tryz.prog 165 #[U32 x, .int .i64 k] w fun e w' => e = .returned (U32 (rotl32 x n)) ∧ w = w' := by
 have hs : (convert 3 135 (.int .i64 k)).run Tryz.prog w = .ok (.int .u64 (IntKind.u64.wrap k)) w := conv_int w .u64 Tryz.underlying3 Tryz.underlying135 .i64 k
 have hn : (n : Int) < 32 := by omega
 have hn0 : (0 : Int) < n := by omega
 have ha : binOp .and 135 (.int .u64 (IntKind.u64.wrap k)) (.int .u64 31) = pure (.int .u64 n) := by
  show (pure (.int .u64 (IntKind.u64.wrap (BitVec.toNat (BitVec.ofInt 64 (IntKind.u64.wrap k) &&& BitVec.ofInt 64 (31 : Int))))) : Sem Value) = _
  have := and_mask k 32 5 rfl (by omega) (by omega)
  rw [show (((32 : Nat) : Int) - 1) = 31 from rfl] at this
  rw [wrap_u64, wrap_u64, this, show ((32 : Nat) : Int) = 32 from rfl, hk]
  refine congrArg (fun z : Int => (pure (Value.int IntKind.u64 z) : Sem Value)) ?_
  omega
 obtain ⟨m, hm⟩ : ∃ m : Nat, 32 - n = m := ⟨_, rfl⟩
 have hw : IntKind.u64.wrap (32 - (n : Int)) = (m : Int) := by rw [wrap_u64]; omega
 have hz : (m : Int) < 32 := by omega
 have HM := Lib.hid hm
 clear hm
 have H := Lib.hid hk
 clear hk
 go_enter Tryz.func165, Tryz.ntmps165
 go_wp2
 go_ret
 exact ⟨by rw [← HM.out]; rfl, rfl⟩
theorem rot64_any (x : UInt64) (k : Int) (n : Nat) (w : World) (hk : k % 64 = n) (h0 : 0 < n) :
  Calls Tryz.prog 166 #[U64 x, .int .i64 k] w fun e w' => e = .returned (U64 (rotl64 x n)) ∧ w = w' := by
 have hs : (convert 3 135 (.int .i64 k)).run Tryz.prog w = .ok (.int .u64 (IntKind.u64.wrap k)) w := conv_int w .u64 Tryz.underlying3 Tryz.underlying135 .i64 k
 have hn : (n : Int) < 64 := by omega
 have hn0 : (0 : Int) < n := by omega
 have ha : binOp .and 135 (.int .u64 (IntKind.u64.wrap k)) (.int .u64 63) = pure (.int .u64 n) := by
  show (pure (.int .u64 (IntKind.u64.wrap (BitVec.toNat (BitVec.ofInt 64 (IntKind.u64.wrap k) &&& BitVec.ofInt 64 (63 : Int))))) : Sem Value) = _
  have := and_mask k 64 6 rfl (by omega) (by omega)
  rw [show (((64 : Nat) : Int) - 1) = 63 from rfl] at this
  rw [wrap_u64, wrap_u64, this, show ((64 : Nat) : Int) = 64 from rfl, hk]
  refine congrArg (fun z : Int => (pure (Value.int IntKind.u64 z) : Sem Value)) ?_
  omega
 obtain ⟨m, hm⟩ : ∃ m : Nat, 64 - n = m := ⟨_, rfl⟩
 have hw : IntKind.u64.wrap (64 - (n : Int)) = (m : Int) := by rw [wrap_u64]; omega
 have hz : (m : Int) < 64 := by omega
 have HM := Lib.hid hm
 clear hm
 have H := Lib.hid hk
 clear hk
 go_enter Tryz.func166, Tryz.ntmps166
 go_wp2
 go_ret
 exact ⟨by rw [← HM.out]; rfl, rfl⟩
def be32 (a b c d : UInt8) : UInt32 := a.toUInt32 <<< 24 ||| b.toUInt32 <<< 16 ||| c.toUInt32 <<< 8 ||| d.toUInt32
def be64 (a b c d e f g h : UInt8) : UInt64 := a.toUInt64 <<< 56 ||| b.toUInt64 <<< 48 ||| c.toUInt64 <<< 40 ||| d.toUInt64 <<< 32 ||| e.toUInt64 <<< 24 ||| f.toUInt64 <<< 16 ||| g.toUInt64 <<< 8 ||| h.toUInt64
def word32 (l : List UInt8) (k : Nat) : UInt32 := be32 (l.getD k 0) (l.getD (k + 1) 0) (l.getD (k + 2) 0) (l.getD (k + 3) 0)
def word64 (l : List UInt8) (k : Nat) : UInt64 := be64 (l.getD k 0) (l.getD (k + 1) 0) (l.getD (k + 2) 0) (l.getD (k + 3) 0) (l.getD (k + 4) 0) (l.getD (k + 5) 0) (l.getD (k + 6) 0) (l.getD (k + 7) 0)
theorem At.cellD {w : World} {b off : Nat} {l : List UInt8} (h : At w b off l) {k : Nat} (hk : k < l.length) : w.cell? ⟨b, off + k, none⟩ = some (B (l.getD k 0)) := by
 rw [h.cell hk]; simp [List.getD, hk]
theorem get32_any (b off n c : Nat) (l : List UInt8) (w : World) (h : At w b off l) (hn : n = l.length) (h4 : 4 ≤ n) :
  Calls Tryz.prog 71 #[.slice (some ⟨b, off, none⟩) n c] w fun e w' => e = .returned (U32 (word32 l 0)) ∧ ∃ k, w' = w.drewN k := by
 have c0 := h.cellD (k := 0) (by omega)
 have c1 := h.cellD (k := 1) (by omega)
 have c2 := h.cellD (k := 2) (by omega)
 have c3 := h.cellD (k := 3) (by omega)
 unfold word32
 simp only [Nat.add_zero, Nat.zero_add] at *
 generalize l.getD 0 0 = x0 at *
 generalize l.getD 1 0 = x1 at *
 generalize l.getD 2 0 = x2 at *
 generalize l.getD 3 0 = x3 at *
 have l0 : (0 : Int) < n := by omega
 have l1 : (1 : Int) < n := by omega
 have l2 : (2 : Int) < n := by omega
 have l3 : (3 : Int) < n := by omega
 have H := Lib.hid hn
 have H2 := Lib.hid h
 clear hn h
 go_enter Tryz.func71, Tryz.ntmps71
 go_wp2
 go_quiet (fail)
 go_wp2
 go_ret
 exact ⟨rfl, _, rfl⟩
theorem get64_any (b off n c : Nat) (l : List UInt8) (w : World) (h : At w b off l) (hn : n = l.length) (h4 : 8 ≤ n) :
  Calls Tryz.prog 90 #[.slice (some ⟨b, off, none⟩) n c] w fun e w' => e = .returned (U64 (word64 l 0)) ∧ ∃ k, w' = w.drewN k := by
 have c0 := h.cellD (k := 0) (by omega)
 have c1 := h.cellD (k := 1) (by omega)
 have c2 := h.cellD (k := 2) (by omega)
 have c3 := h.cellD (k := 3) (by omega)
 have c4 := h.cellD (k := 4) (by omega)
 have c5 := h.cellD (k := 5) (by omega)
 have c6 := h.cellD (k := 6) (by omega)
 have c7 := h.cellD (k := 7) (by omega)
 unfold word64
 simp only [Nat.add_zero, Nat.zero_add] at *
 generalize l.getD 0 0 = x0 at *
 generalize l.getD 1 0 = x1 at *
 generalize l.getD 2 0 = x2 at *
 generalize l.getD 3 0 = x3 at *
 generalize l.getD 4 0 = x4 at *
 generalize l.getD 5 0 = x5 at *
 generalize l.getD 6 0 = x6 at *
 generalize l.getD 7 0 = x7 at *
 have l0 : (0 : Int) < n := by omega
 have l1 : (1 : Int) < n := by omega
 have l2 : (2 : Int) < n := by omega
 have l3 : (3 : Int) < n := by omega
 have l4 : (4 : Int) < n := by omega
 have l5 : (5 : Int) < n := by omega
 have l6 : (6 : Int) < n := by omega
 have l7 : (7 : Int) < n := by omega
 have H := Lib.hid hn
 have H2 := Lib.hid h
 clear hn h
 go_enter Tryz.func90, Tryz.ntmps90
 go_wp2
 go_quiet (fail)
 go_wp2
 go_ret
 exact ⟨rfl, _, rfl⟩
end Go.Proofs.YtgjnmpjimhbfgaaGreatDoor
namespace Go.Proofs.YtgjnmpjimhbfgaaGreatDoor
set_option maxRecDepth 100000
def next256 (l : List UInt32) (k : Nat) : UInt32 :=
 l.getD (k - 16) 0 + (rotl32 (l.getD (k - 15) 0) 25 ^^^ rotl32 (l.getD (k - 15) 0) 14 ^^^ (l.getD (k - 15) 0) >>> 3) + l.getD (k - 7) 0 + (rotl32 (l.getD (k - 2) 0) 15 ^^^ rotl32 (l.getD (k - 2) 0) 13 ^^^ (l.getD (k - 2) 0) >>> 10)
def next1 (l : List UInt32) (k : Nat) : UInt32 := rotl32 (l.getD (k - 3) 0 ^^^ l.getD (k - 8) 0 ^^^ l.getD (k - 14) 0 ^^^ l.getD (k - 16) 0) 1
def next512 (l : List UInt64) (k : Nat) : UInt64 :=
 l.getD (k - 16) 0 + (rotl64 (l.getD (k - 15) 0) 63 ^^^ rotl64 (l.getD (k - 15) 0) 56 ^^^ (l.getD (k - 15) 0) >>> 7) + l.getD (k - 7) 0 + (rotl64 (l.getD (k - 2) 0) 45 ^^^ rotl64 (l.getD (k - 2) 0) 3 ^^^ (l.getD (k - 2) 0) >>> 6)
def schedTo {α : Type} (first : Nat → α) (next : List α → Nat → α) : Nat → List α
 | 0 => []
 | n + 1 => schedTo first next n ++ [if n < 16 then first n else next (schedTo first next n) n]
theorem schedTo_len {α : Type} (first : Nat → α) (next : List α → Nat → α) (n : Nat) : (schedTo first next n).length = n := by
 induction n with
 | zero => rfl
 | succ n ih => simp [schedTo, ih]
def sched256 (p : List UInt8) (n : Nat) : List UInt32 := schedTo (fun k => word32 p (4 * k)) next256 n
def sched1 (p : List UInt8) (n : Nat) : List UInt32 := schedTo (fun k => word32 p (4 * k)) next1 n
def sched512 (p : List UInt8) (n : Nat) : List UInt64 := schedTo (fun k => word64 p (8 * k)) next512 n
structure V8 (α : Type) where
 (a b c d e f g h : α)
def V8.list {α : Type} (v : V8 α) : List α := [v.a, v.b, v.c, v.d, v.e, v.f, v.g, v.h]
def V8.of {α : Type} [OfNat α 0] (l : List α) : V8 α := ⟨l.getD 0 0, l.getD 1 0, l.getD 2 0, l.getD 3 0, l.getD 4 0, l.getD 5 0, l.getD 6 0, l.getD 7 0⟩
def t256 (v : V8 UInt32) (k x : UInt32) : UInt32 := v.h + (rotl32 v.e 26 ^^^ rotl32 v.e 21 ^^^ rotl32 v.e 7) + (v.e &&& v.f ^^^ ~~~v.e &&& v.g) + k + x
def u256 (v : V8 UInt32) : UInt32 := (rotl32 v.a 30 ^^^ rotl32 v.a 19 ^^^ rotl32 v.a 10) + (v.a &&& v.b ^^^ v.a &&& v.c ^^^ v.b &&& v.c)
def step256 (v : V8 UInt32) (k x : UInt32) : V8 UInt32 := ⟨t256 v k x + u256 v, v.a, v.b, v.c, v.d + t256 v k x, v.e, v.f, v.g⟩
def t512 (v : V8 UInt64) (k x : UInt64) : UInt64 := v.h + (rotl64 v.e 50 ^^^ rotl64 v.e 46 ^^^ rotl64 v.e 23) + (v.e &&& v.f ^^^ ~~~v.e &&& v.g) + k + x
def u512 (v : V8 UInt64) : UInt64 := (rotl64 v.a 36 ^^^ rotl64 v.a 30 ^^^ rotl64 v.a 25) + (v.a &&& v.b ^^^ v.a &&& v.c ^^^ v.b &&& v.c)
def step512 (v : V8 UInt64) (k x : UInt64) : V8 UInt64 := ⟨t512 v k x + u512 v, v.a, v.b, v.c, v.d + t512 v k x, v.e, v.f, v.g⟩
structure V5 where
 (a b c d e : UInt32)
def f1 (i : Nat) (v : V5) : UInt32 := if i / 20 = 0 then v.b &&& v.c ||| ~~~v.b &&& v.d else if i / 20 = 2 then v.b &&& v.c ||| v.b &&& v.d ||| v.c &&& v.d else v.b ^^^ v.c ^^^ v.d
def g1 (i : Nat) : UInt32 := if i / 20 = 0 then 0x5a827999 else if i / 20 = 1 then 0x6ed9eba1 else if i / 20 = 2 then 0x8f1bbcdc else 0xca62c1d6
def step1 (i : Nat) (v : V5) (x : UInt32) : V5 := ⟨rotl32 v.a 5 + f1 i v + v.e + g1 i + x, v.a, rotl32 v.b 30, v.c, v.d⟩
def run256 (ks ws : List UInt32) (v : V8 UInt32) : Nat → V8 UInt32
 | 0 => v
 | n + 1 => step256 (run256 ks ws v n) (ks.getD n 0) (ws.getD n 0)
def run512 (ks ws : List UInt64) (v : V8 UInt64) : Nat → V8 UInt64
 | 0 => v
 | n + 1 => step512 (run512 ks ws v n) (ks.getD n 0) (ws.getD n 0)
def run1 (ws : List UInt32) (v : V5) : Nat → V5
 | 0 => v
 | n + 1 => step1 n (run1 ws v n) (ws.getD n 0)
def kTab : List UInt64 := [0x428a2f98d728ae22, 0x7137449123ef65cd, 0xb5c0fbcfec4d3b2f, 0xe9b5dba58189dbbc, 0x3956c25bf348b538, 0x59f111f1b605d019, 0x923f82a4af194f9b, 0xab1c5ed5da6d8118, 0xd807aa98a3030242, 0x12835b0145706fbe, 0x243185be4ee4b28c, 0x550c7dc3d5ffb4e2, 0x72be5d74f27b896f, 0x80deb1fe3b1696b1, 0x9bdc06a725c71235, 0xc19bf174cf692694, 0xe49b69c19ef14ad2, 0xefbe4786384f25e3, 0x0fc19dc68b8cd5b5, 0x240ca1cc77ac9c65, 0x2de92c6f592b0275, 0x4a7484aa6ea6e483, 0x5cb0a9dcbd41fbd4, 0x76f988da831153b5, 0x983e5152ee66dfab, 0xa831c66d2db43210, 0xb00327c898fb213f, 0xbf597fc7beef0ee4, 0xc6e00bf33da88fc2, 0xd5a79147930aa725, 0x06ca6351e003826f, 0x142929670a0e6e70, 0x27b70a8546d22ffc, 0x2e1b21385c26c926, 0x4d2c6dfc5ac42aed, 0x53380d139d95b3df, 0x650a73548baf63de, 0x766a0abb3c77b2a8, 0x81c2c92e47edaee6, 0x92722c851482353b, 0xa2bfe8a14cf10364, 0xa81a664bbc423001, 0xc24b8b70d0f89791, 0xc76c51a30654be30, 0xd192e819d6ef5218, 0xd69906245565a910, 0xf40e35855771202a, 0x106aa07032bbd1b8, 0x19a4c116b8d2d0c8, 0x1e376c085141ab53, 0x2748774cdf8eeb99, 0x34b0bcb5e19b48a8, 0x391c0cb3c5c95a63, 0x4ed8aa4ae3418acb, 0x5b9cca4f7763e373, 0x682e6ff3d6b2b8a3, 0x748f82ee5defb2fc, 0x78a5636f43172f60, 0x84c87814a1f0ab72, 0x8cc702081a6439ec, 0x90befffa23631e28, 0xa4506cebde82bde9, 0xbef9a3f7b2c67915, 0xc67178f2e372532b, 0xca273eceea26619c, 0xd186b8c721c0c207, 0xeada7dd6cde0eb1e, 0xf57d4f7fee6ed178, 0x06f067aa72176fba, 0x0a637dc5a2c898a6, 0x113f9804bef90dae, 0x1b710b35131c471b, 0x28db77f523047d84, 0x32caab7b40c72493, 0x3c9ebe0a15c9bebc, 0x431d67c49c100d4c, 0x4cc5d4becb3e42b6, 0x597f299cfc657e2a, 0x5fcb6fab3ad6faec, 0x6c44198c4a475817]
def kTab32 : List UInt32 := kTab.map fun (x : UInt64) => (x >>> 32).toUInt32
theorem kTab_len : kTab.length = 80 := rfl
theorem kTab32_get (k : Nat) (h : k < 80) : kTab32.getD k 0 = (kTab.getD k 0 >>> 32).toUInt32 := by
 simp [kTab32, List.getD, show k < kTab.length from h]
def out256 (hs : List UInt64) (p : List UInt8) : List UInt32 := (run256 kTab32 (sched256 p 64) (V8.of (hs.map UInt64.toUInt32)) 64).list
def take256 (hs : List UInt64) (p : List UInt8) : List UInt64 := List.zipWith (fun h x => (h.toUInt32 + x).toUInt64) hs (out256 hs p)
def out512 (hs : List UInt64) (p : List UInt8) : List UInt64 := (run512 kTab (sched512 p 80) (V8.of hs) 80).list
def take512 (hs : List UInt64) (p : List UInt8) : List UInt64 := List.zipWith (fun h x => h + x) hs (out512 hs p)
def v5 (hs : List UInt64) : V5 := ⟨(hs.getD 0 0).toUInt32, (hs.getD 1 0).toUInt32, (hs.getD 2 0).toUInt32, (hs.getD 3 0).toUInt32, (hs.getD 4 0).toUInt32⟩
def V5.list (v : V5) : List UInt32 := [v.a, v.b, v.c, v.d, v.e]
def out1 (hs : List UInt64) (p : List UInt8) : List UInt32 := (run1 (sched1 p 80) (v5 hs) 80).list
def take1 (hs : List UInt64) (p : List UInt8) : List UInt64 := List.zipWith (fun h x => (h.toUInt32 + x).toUInt64) hs (out1 hs p) ++ hs.drop 5
theorem V5.list_len (v : V5) : v.list.length = 5 := rfl
theorem V8.list_len {α : Type} (v : V8 α) : v.list.length = 8 := rfl
theorem out1_len (hs : List UInt64) (p : List UInt8) : (out1 hs p).length = 5 := V5.list_len _
theorem take1_len (hs : List UInt64) (p : List UInt8) (h : hs.length = 8) : (take1 hs p).length = 8 := by
 unfold take1
 have := out1_len hs p
 generalize out1 hs p = o at *
 simp [h, this]
theorem take1_get (hs : List UInt64) (p : List UInt8) (k : Nat) (x : UInt64) (y : UInt32) (h : hs.length = 8) (hk : k < 5) (hx : hs[k]? = some x) (hy : (out1 hs p)[k]? = some y) : (take1 hs p)[k]? = some (x.toUInt32 + y).toUInt64 := by
 unfold take1
 have := out1_len hs p
 generalize out1 hs p = o at *
 rw [List.getElem?_append_left (by simp [h, this]; omega), List.getElem?_zipWith, hx, hy]
theorem take1_ge (hs : List UInt64) (p : List UInt8) (k : Nat) (h : hs.length = 8) (hk : 5 ≤ k) : (take1 hs p)[k]? = hs[k]? := by
 unfold take1
 have := out1_len hs p
 generalize out1 hs p = o at *
 have e5 : (List.zipWith (fun (h : UInt64) (x : UInt32) => (h.toUInt32 + x).toUInt64) hs o).length = 5 := by simp [h, this]
 rw [List.getElem?_append_right (by omega), e5, List.getElem?_drop]
 congr 1; omega
def mixTo {α : Type} (new old : List α) (k : Nat) : List α := new.take k ++ old.drop k
theorem mixTo_set {α : Type} (new old : List α) (k : Nat) (x : α) (h : new[k]? = some x) (hk : k < old.length) : (mixTo new old k).set k x = mixTo new old (k + 1) := by
 have hn := (List.getElem?_eq_some_iff.1 h)
 obtain ⟨hlt, rfl⟩ := hn
 unfold mixTo
 rw [List.set_append_right _ _ (by simp; omega)]
 have e1 : (new.take k).length = k := by simp; omega
 rw [e1, Nat.sub_self, List.drop_eq_getElem_cons hk, List.set_cons_zero, List.take_succ_eq_append_getElem hlt, List.append_assoc]
 rfl
theorem mixTo_len {α : Type} (new old : List α) (k : Nat) (h : k ≤ new.length) (h2 : new.length ≤ old.length) : (mixTo new old k).length = old.length := by
 simp [mixTo]; omega
theorem mixTo_get {α : Type} (new old : List α) (k : Nat) (h : k ≤ new.length) : (mixTo new old k)[k]? = old[k]? := by
 unfold mixTo
 rw [List.getElem?_append_right (by simp; omega)]
 have e1 : (new.take k).length = k := by simp; omega
 rw [e1, Nat.sub_self, List.getElem?_drop, Nat.add_zero]
end Go.Proofs.YtgjnmpjimhbfgaaGreatDoor
namespace Go.Proofs.YtgjnmpjimhbfgaaGreatDoor
set_option maxRecDepth 100000
open Go.RowKit
section
variable (t : TypeId)
theorem and_B (x y : UInt8) : binOp .and t (B x) (B y) = pure (B (x &&& y)) := by
 show (pure (.int .u8 (IntKind.u8.wrap (BitVec.toNat (BitVec.ofInt 8 (x.toNat : Int) &&& BitVec.ofInt 8 (y.toNat : Int))))) : Sem Value) = _
 rw [wrap_u8, ← B_eq]
 simp only [BitVec.ofInt_natCast, UInt8.toNat_and, BitVec.toNat_and, BitVec.toNat_ofNat]
 have := x.toNat_lt; have := y.toNat_lt
 rw [Nat.mod_eq_of_lt (by omega), Nat.mod_eq_of_lt (by omega)]
 have : x.toNat &&& y.toNat < 2 ^ 8 := Nat.and_lt_two_pow _ (by omega)
 omega
theorem or_B (x y : UInt8) : binOp .or t (B x) (B y) = pure (B (x ||| y)) := by
 show (pure (.int .u8 (IntKind.u8.wrap (BitVec.toNat (BitVec.ofInt 8 (x.toNat : Int) ||| BitVec.ofInt 8 (y.toNat : Int))))) : Sem Value) = _
 rw [wrap_u8, ← B_eq]
 simp only [BitVec.ofInt_natCast, UInt8.toNat_or, BitVec.toNat_or, BitVec.toNat_ofNat]
 have := x.toNat_lt; have := y.toNat_lt
 rw [Nat.mod_eq_of_lt (by omega), Nat.mod_eq_of_lt (by omega)]
 have : x.toNat ||| y.toNat < 2 ^ 8 := Nat.or_lt_two_pow (by omega) (by omega)
 omega
theorem B_lit (n : Nat) (h : n < 256) : (.int .u8 (n : Int) : Value) = B (UInt8.ofNat n) := by
 rw [B_eq]
 rw [UInt8.toNat_ofNat', Nat.mod_eq_of_lt (by omega)]
theorem andI_B (x : UInt8) (n : Int) (h0 : 0 ≤ n) (h : n < 256) : binOp .and t (B x) (.int .u8 n) = pure (B (x &&& UInt8.ofNat n.toNat)) := by
 obtain ⟨m, rfl⟩ := Int.eq_ofNat_of_zero_le h0
 rw [B_lit m (by omega), and_B]
 rfl
def isN (x : UInt8) (n : Int) : Bool := (x.toNat : Int) == n
def gtN (x : UInt8) (n : Int) : Bool := decide (n < (x.toNat : Int))
theorem eqlI_B (x : UInt8) (n : Int) : binOp .eql t (B x) (.int .u8 n) = pure (.bool (isN x n)) := binOp_eql t .u8 _ _
theorem neqI_B (x : UInt8) (n : Int) : binOp .neq t (B x) (.int .u8 n) = pure (.bool (!isN x n)) := binOp_neq t .u8 _ _
theorem gtrI_B (x : UInt8) (n : Int) : binOp .gtr t (B x) (.int .u8 n) = pure (.bool (gtN x n)) := by
 rw [show B x = .int .u8 (x.toNat : Int) from rfl]
 exact binOp_gtr t .u8 _ _
theorem mulI_B (x : UInt8) (n : Nat) (h : n < 256) : binOp .mul t (B x) (.int .u8 (n : Int)) = pure (B (x * UInt8.ofNat n)) := by
 show (pure (.int .u8 (IntKind.u8.wrap ((x.toNat : Int) * n))) : Sem Value) = _
 rw [wrap_u8, ← B_eq]
 rw [UInt8.toNat_mul, UInt8.toNat_ofNat', Nat.mod_eq_of_lt (a := n) (by omega)]
 simp
theorem mulB_lit (x : UInt8) (n : Int) (h0 : 0 ≤ n) (h : n < 256) : binOp .mul t (B x) (.int .u8 n) = pure (B (x * UInt8.ofNat n.toNat)) := by
 obtain ⟨m, rfl⟩ := Int.eq_ofNat_of_zero_le h0
 exact mulI_B t x m (by omega)
theorem shr_B (x : UInt8) (k : IntKind) (n : Nat) (h : n < 8) : binOp .shr t (B x) (.int k n) = pure (B (x >>> UInt8.ofNat n)) := by
 show Op.shift .shr .u8 (x.toNat : Int) k (n : Int) = _
 unfold Op.shift
 rw [if_neg (by omega)]
 simp only [Int.toNat_natCast, IntKind.bits, Nat.min_eq_left (Nat.le_of_lt h)]
 rw [← B_eq]
 rw [UInt8.toNat_shiftRight, UInt8.toNat_ofNat', Nat.mod_eq_of_lt (a := n) (by omega), Nat.mod_eq_of_lt h, Nat.shiftRight_eq_div_pow]
 rw [Int.fdiv_eq_ediv_of_nonneg _ (by exact_mod_cast Nat.zero_le _)]
 simp
theorem shl_B (x : UInt8) (k : IntKind) (n : Nat) (h : n < 8) : binOp .shl t (B x) (.int k n) = pure (B (x <<< UInt8.ofNat n)) := by
 show Op.shift .shl .u8 (x.toNat : Int) k (n : Int) = _
 unfold Op.shift
 rw [if_neg (by omega)]
 simp only [Int.toNat_natCast, IntKind.bits, Nat.min_eq_left (Nat.le_of_lt h)]
 rw [wrap_u8, ← B_eq]
 rw [UInt8.toNat_shiftLeft, UInt8.toNat_ofNat', Nat.mod_eq_of_lt (a := n) (by omega), Nat.mod_eq_of_lt h, Nat.shiftLeft_eq]
 simp
theorem shrI_B (x : UInt8) (k : IntKind) (n : Int) (h0 : 0 ≤ n) (h : n < 8) : binOp .shr t (B x) (.int k n) = pure (B (x >>> UInt8.ofNat n.toNat)) := by
 obtain ⟨m, rfl⟩ := Int.eq_ofNat_of_zero_le h0
 exact shr_B t x k m (by omega)
theorem shlI_B (x : UInt8) (k : IntKind) (n : Int) (h0 : 0 ≤ n) (h : n < 8) : binOp .shl t (B x) (.int k n) = pure (B (x <<< UInt8.ofNat n.toNat)) := by
 obtain ⟨m, rfl⟩ := Int.eq_ofNat_of_zero_le h0
 exact shl_B t x k m (by omega)
end
theorem all8 {P : UInt8 → Prop} (h : ∀ i : Fin 256, P (UInt8.ofNat i.val)) (a : UInt8) : P a := by
 have := h ⟨a.toNat, a.toNat_lt⟩
 simpa using this
theorem quo2_B (t : TypeId) (x : UInt8) : binOp .quo t (B x) (.int .u8 2) = pure (B (x >>> 1)) := by
 rw [show B x = .int .u8 (x.toNat : Int) from rfl, binOp_quo]
 have h := x.toNat_lt
 have e : ((x >>> 1).toNat : Int) = x.toNat / 2 := by rw [UInt8.toNat_shiftRight]; simp [Nat.shiftRight_eq_div_pow]
 show (pure (.int .u8 (IntKind.u8.wrap (Int.tdiv (x.toNat : Int) 2))) : Sem Value) = _
 rw [wrap_u8, ← B_eq (x := x >>> 1)]
 rw [e, Int.tdiv_eq_ediv_of_nonneg (by omega)]
 omega
theorem rem2_B (t : TypeId) (x : UInt8) : binOp .rem t (B x) (.int .u8 2) = pure (B (x &&& 1)) := by
 rw [show B x = .int .u8 (x.toNat : Int) from rfl, binOp_rem]
 have h := x.toNat_lt
 have e : ((x &&& 1).toNat : Int) = x.toNat % 2 := by simp
 show (pure (.int .u8 (Int.tmod (x.toNat : Int) 2)) : Sem Value) = _
 rw [← B_eq (x := x &&& 1)]
 rw [e, Int.tmod_eq_emod_of_nonneg (by omega)]
theorem mul2_B (t : TypeId) (x : UInt8) : binOp .mul t (B x) (.int .u8 2) = pure (B (x <<< 1)) := by
 rw [mulB_lit t x 2 (by omega) (by omega)]
 have : x * UInt8.ofNat (Int.toNat 2) = x <<< 1 := by
  revert x; refine all8 ?_; decide +kernel
 rw [this]
def geN (x : UInt8) (n : Int) : Bool := decide ((x.toNat : Int) ≥ n)
theorem geqI_B (t : TypeId) (x : UInt8) (n : Int) : binOp .geq t (B x) (.int .u8 n) = pure (.bool (geN x n)) := by
 rw [show B x = .int .u8 (x.toNat : Int) from rfl]
 exact binOp_geq t .u8 _ _
theorem eqGuard_eql_B (t : TypeId) (x y : Operand) (u : UInt8) (n : Int) : eqGuard .eql t x y (B u) (.int .u8 n) = pure () := by
 rw [show B u = .int .u8 (u.toNat : Int) from rfl]; simp [go_sem]
theorem eqGuard_neq_B (t : TypeId) (x y : Operand) (u : UInt8) (n : Int) : eqGuard .neq t x y (B u) (.int .u8 n) = pure () := by
 rw [show B u = .int .u8 (u.toNat : Int) from rfl]; simp [go_sem]
theorem indexAt_B (t : TypeId) (v : Value) (x : UInt8) : Instr.indexAt t v (B x) = Instr.indexAt t v (.int .u8 (x.toNat : Int)) := rfl
attribute [go_sem] indexAt_B quo2_B rem2_B mul2_B geqI_B eqGuard_eql_B eqGuard_neq_B and_B or_B andI_B mulB_lit shrI_B shlI_B eqlI_B neqI_B gtrI_B
end Go.Proofs.YtgjnmpjimhbfgaaGreatDoor
