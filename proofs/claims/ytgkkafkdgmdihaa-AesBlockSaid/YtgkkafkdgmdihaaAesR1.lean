/-
  The reference's Xor, and bytes of the field's products.
-/
import Derived.Test.YtgkkafkdgmdihaaAesN
namespace Go.Proofs.Ytgkkafkdgmdihaa
open Go.RowKit

theorem add_B (t : TypeId) (x y : UInt8) : binOp .add t (B x) (B y) = pure (B (x + y)) := by
  show (pure (.int .u8 (IntKind.u8.wrap (x.toNat + y.toNat))) : Sem Value) = _
  rw [wrap_u8, ← B_eq (x := x + y)]
  rw [UInt8.toNat_add]; simp
theorem addI_B (t : TypeId) (x : UInt8) (n : Int) (h0 : 0 ≤ n) (h : n < 256) : binOp .add t (B x) (.int .u8 n) = pure (B (x + UInt8.ofNat n.toNat)) := by
  obtain ⟨m, rfl⟩ := Int.eq_ofNat_of_zero_le h0
  rw [B_lit m (by omega), add_B]; rfl
set_option maxHeartbeats 1000000 in
theorem rxor_any (A C : Option Addr) (ca cb : Nat) (a b : List UInt8) (w : World) (ha : Rd w A 16 ca a) (hb : Rd w C 16 cb b) :
    Calls Try.prog 26 #[.slice A 16 ca, .slice C 16 cb] w fun e w' => e = .returned (.slice (some ⟨w.heap.size, 0, none⟩) 16 16) ∧ Own w' w.heap.size (.slice (some ⟨w.heap.size, 0, none⟩) 16 16) (xorL a b) ∧ Below w.heap.size w w' := by
  have hal : a.length = 16 := ha.1.symm
  have hbl : b.length = 16 := hb.1.symm
  have hca := ha.2.1
  have hcb := hb.2.1
  obtain ⟨ba, oa, rfl, haa⟩ := ha.addr (by omega)
  obtain ⟨bb, ob, rfl, hbb⟩ := hb.addr (by omega)
  obtain ⟨X, hX⟩ : ∃ X, w.heap.size = X := ⟨_, rfl⟩
  have hmk := Try.prog_make 16 (by omega) w
  obtain ⟨w1, hw1⟩ : ∃ w1, w.alloc (.cells (madeCells #[.int .u8 0] 16) 5) = w1 := ⟨_, rfl⟩
  have hO1 : Own w1 X (.slice (some ⟨X, 0, none⟩) 16 16) (zs 16) := by rw [← hw1, ← hX]; exact Own.made w 16 (by unfold maxLen; omega)
  have hB1 : Below X w w1 := by rw [← hw1, ← hX]; exact (Below.refl _ _).alloc (Nat.le_refl _) _
  rw [hw1, hX, show ((16 : Nat) : Int) = 16 from rfl] at hmk
  have hbaX : ba < X := by rw [← hX]; exact haa.1
  have hbbX : bb < X := by rw [← hX]; exact hbb.1
  have HH := Lib.hid (And.intro haa (And.intro hbb (And.intro hal (And.intro hbl (And.intro hO1 hB1)))))
  clear haa hbb ha hb hal hbl hO1 hB1 hw1
  rw [hX]
  go_enter Try.func26, Try.ntmps26
  go_wp2_with fail
  clear hmk
  go_loopw [6] (fun iv wr => ∃ i : Nat, i ≤ 16 ∧ iv = .int .i64 (i : Int) ∧ Own wr X (.slice (some ⟨X, 0, none⟩) 16 16) (mid i (xorL a b) (zs 16)) ∧ Below X w wr) (fun iv _ => 16 - (intOf iv).toNat)
  case atStart => exact ⟨0, by omega, rfl, by rw [mid_zero]; exact HH.out.2.2.2.2.1, HH.out.2.2.2.2.2⟩
  case round =>
    obtain ⟨i, hi, rfl, hO, hB⟩ := hrel
    by_cases hlt : i < 16
    · have hq : (i : Int) < 16 := by omega
      obtain ⟨x, hx⟩ := at16 a HH.out.2.2.1 i hlt
      obtain ⟨y, hy⟩ := at16 b HH.out.2.2.2.1 i hlt
      have hxy := xorL_at a b i x y hx hy
      have y0 : wr.cell? ⟨ba, oa + i, none⟩ = some (B x) := by rw [hB.cell (p := ⟨ba, oa + i, none⟩) hbaX]; exact HH.out.1.2 i x hx
      have y1 : wr.cell? ⟨bb, ob + i, none⟩ = some (B y) := by rw [hB.cell (p := ⟨bb, ob + i, none⟩) hbbX]; exact HH.out.2.1.2 i y hy
      obtain ⟨z, hz⟩ := at16 (mid i (xorL a b) (zs 16)) hO.len.symm i hlt
      have y2 := hO.cell i z hz
      have y3 := hO.frozen i
      have hqa : (i : Int) < ca := by omega
      have HS := Lib.hid (And.intro hO (And.intro hB hxy))
      clear hO hB hxy hx hy hz
      go_wp2_with fail
      go_still_tail 12, (by kernel_rfl)
      go_wp2_with fail
      have h1 := HS.out.1.set_ i (x ^^^ y) hlt
      rw [mid_set _ _ _ _ HS.out.2.2 (by rw [zs_len]; exact hlt)] at h1
      have hT : Turn [X] wr (wr.setCell ⟨X, i, none⟩ (B (x ^^^ y))).drew := ((Turn.refl _ _).setCell (p := ⟨X, i, none⟩) (.inl (by simp)) _).drew
      go_roundw
      case rel => exact ⟨i + 1, by omega, by go_num, h1, below_turn HS.out.2.1 hT (by simp) (by rw [← hX]; have := HS.out.2.1.size; omega)⟩
      case measure => simp [intOf]; omega
    · obtain rfl : i = 16 := by omega
      have hq : ¬ ((16 : Int) < 16) := by omega
      rw [mid_all _ _ 16 (xorL_len _ _ 16 HH.out.2.2.1 HH.out.2.2.2.1) (zs_len 16)] at hO
      have HS := Lib.hid (And.intro hO hB)
      clear hO hB hi hlt
      go_wp2_with fail
      go_ret
      exact ⟨rfl, HS.out.1, HS.out.2⟩
end Go.Proofs.Ytgkkafkdgmdihaa
