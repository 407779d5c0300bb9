/-
  Numbers of 16 bits, and numbers of fixed width out of plain ints and back.
-/
import Derived.Test.YtpccmcpeijmekaaDoorApp2
namespace Go.Proofs.YtpccmcpeijmekaaDoor
open Go.RowKit

def U16 (x : UInt16) : Value := .int .u16 (x.toNat : Int)
theorem wrap_u16 (n : Int) : IntKind.u16.wrap n = n % 65536 := by simp [IntKind.wrap, IntKind.bits, IntKind.signed]
theorem U16_eq {x : UInt16} {n : Int} (h : (x.toNat : Int) = n) : U16 x = .int .u16 n := by unfold U16; rw [h]
section
variable (t : TypeId)
theorem or_U16 (x y : UInt16) : binOp .or t (U16 x) (U16 y) = pure (U16 (x ||| y)) := by
  show (pure (.int .u16 (IntKind.u16.wrap (BitVec.toNat (BitVec.ofInt 16 (x.toNat : Int) ||| BitVec.ofInt 16 (y.toNat : Int))))) : Sem Value) = _
  rw [wrap_u16, ← U16_eq]
  simp only [BitVec.ofInt_natCast, UInt16.toNat_or, BitVec.toNat_or, BitVec.toNat_ofNat]
  have := x.toNat_lt; have := y.toNat_lt
  rw [Nat.mod_eq_of_lt (by omega), Nat.mod_eq_of_lt (by omega)]
  have : x.toNat ||| y.toNat < 2 ^ 16 := Nat.or_lt_two_pow (by omega) (by omega)
  omega
theorem shr_U16 (x : UInt16) (k : IntKind) (n : Nat) (h : n < 16) : binOp .shr t (U16 x) (.int k n) = pure (U16 (x >>> UInt16.ofNat n)) := by
  show Op.shift .shr .u16 (x.toNat : Int) k (n : Int) = _
  unfold Op.shift
  rw [if_neg (by omega)]
  simp only [Int.toNat_natCast, IntKind.bits, Nat.min_eq_left (Nat.le_of_lt h)]
  rw [← U16_eq]
  rw [UInt16.toNat_shiftRight, UInt16.toNat_ofNat', Nat.mod_eq_of_lt (a := n) (by omega), Nat.mod_eq_of_lt h, Nat.shiftRight_eq_div_pow]
  rw [Int.fdiv_eq_ediv_of_nonneg _ (by exact_mod_cast Nat.zero_le _)]
  simp
theorem shl_U16 (x : UInt16) (k : IntKind) (n : Nat) (h : n < 16) : binOp .shl t (U16 x) (.int k n) = pure (U16 (x <<< UInt16.ofNat n)) := by
  show Op.shift .shl .u16 (x.toNat : Int) k (n : Int) = _
  unfold Op.shift
  rw [if_neg (by omega)]
  simp only [Int.toNat_natCast, IntKind.bits, Nat.min_eq_left (Nat.le_of_lt h)]
  rw [wrap_u16, ← U16_eq]
  rw [UInt16.toNat_shiftLeft, UInt16.toNat_ofNat', Nat.mod_eq_of_lt (a := n) (by omega), Nat.mod_eq_of_lt h, Nat.shiftLeft_eq]
  simp
theorem shrI_U16 (x : UInt16) (k : IntKind) (n : Int) (h0 : 0 ≤ n) (h : n < 16) : binOp .shr t (U16 x) (.int k n) = pure (U16 (x >>> UInt16.ofNat n.toNat)) := by
  obtain ⟨m, rfl⟩ := Int.eq_ofNat_of_zero_le h0
  exact shr_U16 t x k m (by omega)
theorem shlI_U16 (x : UInt16) (k : IntKind) (n : Int) (h0 : 0 ≤ n) (h : n < 16) : binOp .shl t (U16 x) (.int k n) = pure (U16 (x <<< UInt16.ofNat n.toNat)) := by
  obtain ⟨m, rfl⟩ := Int.eq_ofNat_of_zero_le h0
  exact shl_U16 t x k m (by omega)
end
attribute [go_sem] or_U16 shrI_U16 shlI_U16
section
variable {P : Program} {s d : TypeId} {ds : TypeDesc} (w : World)
theorem conv_B_U16 (hs : P.underlying s = some ds) (hd : P.underlying d = some (.int .u16)) (x : UInt8) : (convert s d (B x)).run P w = .ok (U16 x.toUInt16) w := by
  unfold B
  rw [conv_int w .u16 hs hd, wrap_u16, ← U16_eq (x := x.toUInt16)]
  have := x.toNat_lt; rw [UInt8.toNat_toUInt16]; omega
theorem conv_U16_B (hs : P.underlying s = some ds) (hd : P.underlying d = some (.int .u8)) (x : UInt16) : (convert s d (U16 x)).run P w = .ok (B x.toUInt8) w := by
  unfold U16
  rw [conv_int w .u8 hs hd, wrap_u8, ← B_eq (x := x.toUInt8)]
  rw [UInt16.toNat_toUInt8]; omega
theorem wrap_i64 (n : Int) (h0 : -9223372036854775808 ≤ n) (h1 : n ≤ 9223372036854775807) : IntKind.i64.wrap n = n := by
  simp only [IntKind.wrap, IntKind.bits, IntKind.signed]
  simp
  split <;> omega
theorem conv_U16_int (hs : P.underlying s = some ds) (hd : P.underlying d = some (.int .i64)) (x : UInt16) : (convert s d (U16 x)).run P w = .ok (.int .i64 (x.toNat : Int)) w := by
  unfold U16
  have := x.toNat_lt
  rw [conv_int w .i64 hs hd, wrap_i64 _ (by omega) (by omega)]
theorem conv_U32_int (hs : P.underlying s = some ds) (hd : P.underlying d = some (.int .i64)) (x : UInt32) : (convert s d (U32 x)).run P w = .ok (.int .i64 (x.toNat : Int)) w := by
  unfold U32
  have := x.toNat_lt
  rw [conv_int w .i64 hs hd, wrap_i64 _ (by omega) (by omega)]
theorem conv_U64_int (hs : P.underlying s = some ds) (hd : P.underlying d = some (.int .i64)) (x : UInt64) (hx : x.toNat < 9223372036854775808) : (convert s d (U64 x)).run P w = .ok (.int .i64 (x.toNat : Int)) w := by
  unfold U64
  rw [conv_int w .i64 hs hd, wrap_i64 _ (by omega) (by omega)]
theorem int_U16 (n : Nat) (h : n < 65536) : (Value.int .u16 (n : Int)) = U16 (UInt16.ofNat n) := (U16_eq (by rw [UInt16.toNat_ofNat']; omega)).symm
theorem int_U32 (n : Nat) (h : n < 4294967296) : (Value.int .u32 (n : Int)) = U32 (UInt32.ofNat n) := (U32_eq (by rw [UInt32.toNat_ofNat']; omega)).symm
theorem int_U64 (n : Nat) (h : n < 18446744073709551616) : (Value.int .u64 (n : Int)) = U64 (UInt64.ofNat n) := (U64_eq (by rw [UInt64.toNat_ofNat']; omega)).symm
end
@[go_sem] theorem Tryd.conv_8_16 (w : World) (x : UInt8) : (convert 5 53 (B x)).run Tryd.prog w = .ok (U16 x.toUInt16) w := conv_B_U16 w Tryd.underlying5 Tryd.underlying53 x
@[go_sem] theorem Tryd.conv_16_8 (w : World) (x : UInt16) : (convert 53 5 (U16 x)).run Tryd.prog w = .ok (B x.toUInt8) w := conv_U16_B w Tryd.underlying53 Tryd.underlying5 x
@[go_sem] theorem Tryd.conv_16_int (w : World) (x : UInt16) : (convert 53 3 (U16 x)).run Tryd.prog w = .ok (.int .i64 (x.toNat : Int)) w := conv_U16_int w Tryd.underlying53 Tryd.underlying3 x
@[go_sem] theorem Tryd.conv_32_int (w : World) (x : UInt32) : (convert 49 3 (U32 x)).run Tryd.prog w = .ok (.int .i64 (x.toNat : Int)) w := conv_U32_int w Tryd.underlying49 Tryd.underlying3 x

def bytes16 (x : UInt16) : List UInt8 := [(x >>> 8).toUInt8, x.toUInt8]
theorem append16_any (v : Value) (x : UInt16) (l : List UInt8) (w : World) (base : Nat) (h : Own w base v l) (hb : base ≤ w.heap.size) (hl : l.length ≤ 140737488351000) :
    Calls Tryd.prog 24 #[v, U16 x] w fun e w' => ∃ v', e = .returned v' ∧ Own w' base v' (l ++ bytes16 x) ∧ Turn v.ownBlock.toList w w' ∧ v' ≠ .slice none 0 0 := by
  have ho2 : Own (w.alloc (.cells #[B (x >>> 8).toUInt8, B x.toUInt8] 5)) base v l := h.below ((Below.refl _ _).alloc (Nat.le_refl _) _)
  have hr : Rd (w.alloc (.cells #[B (x >>> 8).toUInt8, B x.toUInt8] 5)) (some ⟨w.heap.size, 0, none⟩) 2 2 (bytes16 x) := Rd.of_blk (l := bytes16 x) (heap_alloc_new w _) (by simp [bytes16, maxLen])
  go_enter Tryd.func24, Tryd.ntmps24
  go_wp2_with (at_builtin; refine wp_app rfl _ _ rfl base v l rfl ho2 (some ⟨w.heap.size, 0, none⟩) 2 2 (bytes16 x) rfl hr ?c3 ?c5 ?_)
  case c3 => simp [bytes16]; omega
  case c5 => simp; omega
  intro v' w' ho hg hn hb
  have HB := Lib.hid (And.intro hn hb)
  clear hn hb hr ho2
  go_wp2
  go_ret
  refine ⟨_, rfl, ho, (((Turn.refl _ w).alloc _).app hg (.inl rfl)), ?_⟩
  intro e
  have := (HB.out.1.1 e).2
  simp [bytes16] at this
/-! ### bytes as numbers, plainly -/
def word16 (l : List UInt8) (k : Nat) : UInt16 := (l.getD k 0).toUInt16 <<< 8 ||| (l.getD (k + 1) 0).toUInt16
end Go.Proofs.YtpccmcpeijmekaaDoor
