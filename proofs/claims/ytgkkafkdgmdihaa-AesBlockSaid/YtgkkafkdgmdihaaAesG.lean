/-
  Elements of GHASH's field: times.
-/
import Derived.Test.YtgkkafkdgmdihaaAesE
import Derived.Test.YtgkkafkdgmdihaaRot
namespace Go.Proofs.Ytgkkafkdgmdihaa
open Go.RowKit

theorem U64_lit (n : Nat) (h : n < 18446744073709551616) : (.int .u64 (n : Int) : Value) = U64 (UInt64.ofNat n) := by
  symm
  refine U64_eq ?_
  rw [UInt64.toNat_ofNat', Nat.mod_eq_of_lt (by omega)]
theorem andI_U64 (t : TypeId) (x : UInt64) (n : Int) (h0 : 0 ≤ n) (h : n < 18446744073709551616) : binOp .and t (U64 x) (.int .u64 n) = pure (U64 (x &&& UInt64.ofNat n.toNat)) := by
  obtain ⟨m, rfl⟩ := Int.eq_ofNat_of_zero_le h0
  rw [U64_lit m (by omega), and_U64]; rfl
theorem andIL_U64 (t : TypeId) (x : UInt64) (n : Int) (h0 : 0 ≤ n) (h : n < 18446744073709551616) : binOp .and t (.int .u64 n) (U64 x) = pure (U64 (UInt64.ofNat n.toNat &&& x)) := by
  obtain ⟨m, rfl⟩ := Int.eq_ofNat_of_zero_le h0
  rw [U64_lit m (by omega), and_U64]; rfl
theorem neg_U64 (x : UInt64) : Op.unary .neg (U64 x) = pure (U64 (-x)) := by
  show (pure (.int .u64 (IntKind.u64.wrap (0 - (x.toNat : Int)))) : Sem Value) = _
  rw [wrap_u64, ← U64_eq]
  have h := x.toNat_lt
  rw [UInt64.toNat_neg]
  simp only [UInt64.size]
  omega
attribute [local go_sem] andI_U64 andIL_U64 neg_U64 shr_U64
def bitE (h l : UInt64) (i : Nat) : UInt64 := (if 63 < i then l >>> UInt64.ofNat (63 - i % 64) else h >>> UInt64.ofNat (63 - i % 64)) &&& 1
structure Es where
  zh : UInt64
  zl : UInt64
  yh : UInt64
  yl : UInt64
def eStep (xh xl : UInt64) (i : Nat) (s : Es) : Es :=
  { zh := s.zh ^^^ (s.yh &&& -(bitE xh xl i)), zl := s.zl ^^^ (s.yl &&& -(bitE xh xl i)),
    yh := (s.yh >>> 1) ^^^ (16212958658533785600 &&& -(s.yl &&& 1)), yl := (s.yl >>> 1) ||| (s.yh <<< 63) }
def eF (xh xl yh yl : UInt64) : Nat → Es
  | 0 => ⟨0, 0, yh, yl⟩
  | i + 1 => eStep xh xl i (eF xh xl yh yl i)
def El (h l : UInt64) : Value := .agg #[U64 h, U64 l]
theorem eRound {X : Nat} {w wr : World} {xh xl vh vl zh zl : UInt64} (h1 : Blk wr X 55 #[U64 xh, U64 xl]) (h2 : Blk wr (X + 1) 55 #[U64 vh, U64 vl]) (h3 : Blk wr (X + 1 + 1 + 1) 55 #[U64 zh, U64 zl]) (h4 : Blk wr (X + 1 + 1) 55 #[U64 0, U64 0]) (h5 : Below X w wr) (b : UInt64) :
    Blk ((((wr.setCell ⟨X + 1 + 1 + 1, 0, none⟩ (U64 (zh ^^^ vh &&& -b))).setCell ⟨X + 1 + 1 + 1, 1, none⟩ (U64 (zl ^^^ vl &&& -b))).setCell ⟨X + 1, 1, none⟩ (U64 (vl >>> 1 ||| vh <<< 63))).setCell ⟨X + 1, 0, none⟩ (U64 (vh >>> 1 ^^^ 16212958658533785600 &&& -(vl &&& 1)))) X 55 #[U64 xh, U64 xl] ∧
    Blk ((((wr.setCell ⟨X + 1 + 1 + 1, 0, none⟩ (U64 (zh ^^^ vh &&& -b))).setCell ⟨X + 1 + 1 + 1, 1, none⟩ (U64 (zl ^^^ vl &&& -b))).setCell ⟨X + 1, 1, none⟩ (U64 (vl >>> 1 ||| vh <<< 63))).setCell ⟨X + 1, 0, none⟩ (U64 (vh >>> 1 ^^^ 16212958658533785600 &&& -(vl &&& 1)))) (X + 1) 55 #[U64 (vh >>> 1 ^^^ 16212958658533785600 &&& -(vl &&& 1)), U64 (vl >>> 1 ||| vh <<< 63)] ∧
    Blk ((((wr.setCell ⟨X + 1 + 1 + 1, 0, none⟩ (U64 (zh ^^^ vh &&& -b))).setCell ⟨X + 1 + 1 + 1, 1, none⟩ (U64 (zl ^^^ vl &&& -b))).setCell ⟨X + 1, 1, none⟩ (U64 (vl >>> 1 ||| vh <<< 63))).setCell ⟨X + 1, 0, none⟩ (U64 (vh >>> 1 ^^^ 16212958658533785600 &&& -(vl &&& 1)))) (X + 1 + 1 + 1) 55 #[U64 (zh ^^^ vh &&& -b), U64 (zl ^^^ vl &&& -b)] ∧
    Blk ((((wr.setCell ⟨X + 1 + 1 + 1, 0, none⟩ (U64 (zh ^^^ vh &&& -b))).setCell ⟨X + 1 + 1 + 1, 1, none⟩ (U64 (zl ^^^ vl &&& -b))).setCell ⟨X + 1, 1, none⟩ (U64 (vl >>> 1 ||| vh <<< 63))).setCell ⟨X + 1, 0, none⟩ (U64 (vh >>> 1 ^^^ 16212958658533785600 &&& -(vl &&& 1)))) (X + 1 + 1) 55 #[U64 0, U64 0] ∧
    Below X w ((((wr.setCell ⟨X + 1 + 1 + 1, 0, none⟩ (U64 (zh ^^^ vh &&& -b))).setCell ⟨X + 1 + 1 + 1, 1, none⟩ (U64 (zl ^^^ vl &&& -b))).setCell ⟨X + 1, 1, none⟩ (U64 (vl >>> 1 ||| vh <<< 63))).setCell ⟨X + 1, 0, none⟩ (U64 (vh >>> 1 ^^^ 16212958658533785600 &&& -(vl &&& 1)))) := by
  refine ⟨(((h1.far ?_ _).far ?_ _).far ?_ _).far ?_ _, ?_, ?_, (((h4.far ?_ _).far ?_ _).far ?_ _).far ?_ _, ?_⟩
  any_goals (show _ ≠ _; simp; try omega)
  · exact (((h2.far (by show X + 1 ≠ X + 1 + 1 + 1; omega) _).far (by show X + 1 ≠ X + 1 + 1 + 1; omega) _).set_ 1 _).set_ 0 _
  · exact ((((h3.set_ 0 _).set_ 1 _).far (by show X + 1 + 1 + 1 ≠ X + 1; omega) _).far (by show X + 1 + 1 + 1 ≠ X + 1; omega) _)
  · have hT : Turn [X + 1, X + 1 + 1 + 1] wr ((((wr.setCell ⟨X + 1 + 1 + 1, 0, none⟩ (U64 (zh ^^^ vh &&& -b))).setCell ⟨X + 1 + 1 + 1, 1, none⟩ (U64 (zl ^^^ vl &&& -b))).setCell ⟨X + 1, 1, none⟩ (U64 (vl >>> 1 ||| vh <<< 63))).setCell ⟨X + 1, 0, none⟩ (U64 (vh >>> 1 ^^^ 16212958658533785600 &&& -(vl &&& 1)))) :=
      ((((Turn.refl _ _).setCell (.inl (by simp)) _).setCell (.inl (by simp)) _).setCell (.inl (by simp)) _).setCell (.inl (by simp)) _
    exact below_turn h5 hT (fun t ht => by simp at ht; omega) (by have := h1.lt; omega)
set_option maxHeartbeats 4000000 in
theorem etimes_any (xh xl yh yl : UInt64) (w : World) :
    Calls Try.prog 29 #[El xh xl, El yh yl] w fun e w' => e = .returned (El (eF xh xl yh yl 128).zh (eF xh xl yh yl 128).zl) ∧ Below w.heap.size w w' := by
  obtain ⟨X, hX⟩ : ∃ X, w.heap.size = X := ⟨_, rfl⟩
  obtain ⟨w1, hw1⟩ : ∃ w1, (((w.alloc (.cells #[U64 xh, U64 xl] 55)).alloc (.cells #[U64 yh, U64 yl] 55)).alloc (.cells #[.int .u64 0, .int .u64 0] 55)).alloc (.cells #[.int .u64 0, .int .u64 0] 55) = w1 := ⟨_, rfl⟩
  unfold El
  go_enter Try.func29, Try.ntmps29
  go_wp2
  have hxb : Blk w1 X 55 #[U64 xh, U64 xl] := by rw [← hw1, ← hX]; exact (((Blk.new _ _ _).alloc _).alloc _).alloc _
  have hyb : Blk w1 (X + 1) 55 #[U64 yh, U64 yl] := by
    have := Blk.new (w.alloc (.cells #[U64 xh, U64 xl] 55)) 55 #[U64 yh, U64 yl]
    rw [show (w.alloc (.cells #[U64 xh, U64 xl] 55)).heap.size = X + 1 by simp [hX]] at this
    rw [← hw1]; exact (this.alloc _).alloc _
  have hzb : Blk w1 (X + 1 + 1 + 1) 55 #[U64 0, U64 0] := by
    have := Blk.new (((w.alloc (.cells #[U64 xh, U64 xl] 55)).alloc (.cells #[U64 yh, U64 yl] 55)).alloc (.cells #[.int .u64 0, .int .u64 0] 55)) 55 #[.int .u64 0, .int .u64 0]
    rw [show (((w.alloc (.cells #[U64 xh, U64 xl] 55)).alloc (.cells #[U64 yh, U64 yl] 55)).alloc (.cells #[.int .u64 0, .int .u64 0] 55)).heap.size = X + 1 + 1 + 1 by simp [hX]] at this
    rw [← hw1]; exact this
  have hrb : Blk w1 (X + 1 + 1) 55 #[U64 0, U64 0] := by
    have := Blk.new ((w.alloc (.cells #[U64 xh, U64 xl] 55)).alloc (.cells #[U64 yh, U64 yl] 55)) 55 #[.int .u64 0, .int .u64 0]
    rw [show ((w.alloc (.cells #[U64 xh, U64 xl] 55)).alloc (.cells #[U64 yh, U64 yl] 55)).heap.size = X + 1 + 1 by simp [hX]] at this
    rw [← hw1]; exact this.alloc _
  have hB : Below X w w1 := by
    rw [← hw1, ← hX]
    exact ((((Below.refl _ _).alloc (by simp) _).alloc (by simp) _).alloc (by simp; omega) _).alloc (by simp; omega) _
  have HH := Lib.hid (And.intro hxb (And.intro hyb (And.intro hzb (And.intro hrb hB))))
  clear hxb hyb hzb hrb hB hw1
  go_loopw [9] (fun iv wr => ∃ i : Nat, i ≤ 128 ∧ iv = .int .i64 (i : Int) ∧ Blk wr X 55 #[U64 xh, U64 xl] ∧ Blk wr (X + 1) 55 #[U64 (eF xh xl yh yl i).yh, U64 (eF xh xl yh yl i).yl] ∧ Blk wr (X + 1 + 1 + 1) 55 #[U64 (eF xh xl yh yl i).zh, U64 (eF xh xl yh yl i).zl] ∧ Blk wr (X + 1 + 1) 55 #[U64 0, U64 0] ∧ Below X w wr) (fun iv _ => 128 - (intOf iv).toNat)
  case atStart => exact ⟨0, by omega, rfl, HH.out.1, HH.out.2.1, HH.out.2.2.1, HH.out.2.2.2.1, HH.out.2.2.2.2⟩
  case round =>
    obtain ⟨i, hi, rfl, h1, h2, h3, h4, h5⟩ := hrel
    by_cases hlt : i < 128
    · have hq : (i : Int) < 128 := by omega
      have hst : eF xh xl yh yl (i + 1) = eStep xh xl i (eF xh xl yh yl i) := rfl
      generalize eF xh xl yh yl i = s at *
      obtain ⟨zh, zl, vh, vl⟩ := s
      have x0 := h1.cell 0
      have x1 := h1.cell 1
      have y0 := h2.cell 0
      have y1 := h2.cell 1
      have z0 := h3.cell 0
      have z1 := h3.cell 1
      have fy0 := h2.frozen 0
      have fy1 := h2.frozen 1
      have fz0 := h3.frozen 0
      have fz1 := h3.frozen 1
      simp only [List.getElem?_toArray, List.getElem?_cons_zero, List.getElem?_cons_succ] at x0 x1 y0 y1 z0 z1
      obtain ⟨m, hm⟩ : ∃ m, m = i % 64 := ⟨_, rfl⟩
      have g0 : (i : Int).tmod 64 = (m : Int) := by rw [Int.tmod_eq_emod_of_nonneg (by omega)]; omega
      have g0' : (i : Int) % 64 = (m : Int) := by omega
      obtain ⟨sh, hsh⟩ : ∃ sh, sh = 63 - i % 64 := ⟨_, rfl⟩
      have hsh' : sh < 64 := by omega
      have g1 : IntKind.i64.wrap (63 - (m : Int)) = (sh : Int) := by rw [IntWalk.i64_in _ (by omega)]; omega
      have hbt : bitE xh xl i = (if 63 < i then xl >>> UInt64.ofNat sh else xh >>> UInt64.ofNat sh) &&& 1 := by unfold bitE; rw [hsh]
      have HS := Lib.hid (And.intro h1 (And.intro h2 (And.intro h3 (And.intro h4 (And.intro h5 (And.intro hst (And.intro hbt hm)))))))
      have fin : ∀ b : UInt64, _ := fun b => eRound (w := w) (X := X) h1 h2 h3 h4 h5 b
      clear h1 h2 h3 h4 h5 hst hbt hsh
      by_cases h63 : 63 < i
      · have k1 : (63 : Int) < i := by omega
        have k2 : decide ((63 : Int) < i) = true := decide_eq_true k1
        clear hm
        go_wp2
        have hb : bitE xh xl i = xl >>> UInt64.ofNat sh &&& 1 := by rw [HS.out.2.2.2.2.2.2.1, if_pos h63]
        refine ⟨⟨i + 1, by omega, by go_num, ?_⟩, by simp [intOf]; omega⟩
        rw [HS.out.2.2.2.2.2.1]
        unfold eStep
        rw [hb]
        exact fin _
      · have k1 : ¬ (63 : Int) < i := by omega
        have k2 : decide ((63 : Int) < i) = false := decide_eq_false k1
        clear hm
        go_wp2
        have hb : bitE xh xl i = xh >>> UInt64.ofNat sh &&& 1 := by rw [HS.out.2.2.2.2.2.2.1, if_neg h63]
        refine ⟨⟨i + 1, by omega, by go_num, ?_⟩, by simp [intOf]; omega⟩
        rw [HS.out.2.2.2.2.2.1]
        unfold eStep
        rw [hb]
        exact fin _
    · obtain rfl : i = 128 := by omega
      have hq : ¬ ((128 : Int) < 128) := by omega
      generalize hs : eF xh xl yh yl 128 = s at *
      obtain ⟨zh, zl, vh, vl⟩ := s
      have Hs := Lib.hid hs
      clear hs
      have z0 := h3.cell 0
      have z1 := h3.cell 1
      have r0 := h4.cell 0
      have r1 := h4.cell 1
      have fr0 := h4.frozen 0
      have fr1 := h4.frozen 1
      simp only [List.getElem?_toArray, List.getElem?_cons_zero, List.getElem?_cons_succ] at z0 z1 r0 r1
      have HS := Lib.hid (And.intro h4 h5)
      clear h1 h2 h3 h4 h5 hi hlt
      go_wp2
      have hT : Turn [X + 1 + 1] wr ((wr.setCell ⟨X + 1 + 1, 0, none⟩ (U64 zh)).setCell ⟨X + 1 + 1, 1, none⟩ (U64 zl)) := ((Turn.refl _ _).setCell (.inl (by simp)) _).setCell (.inl (by simp)) _
      have hB5 := (HS.out.1.set_ 0 (U64 zh)).set_ 1 (U64 zl)
      have hc0 := hB5.cell 0
      have hc1 := hB5.cell 1
      simp only [List.setIfInBounds_toArray, List.set_cons_zero, List.set_cons_succ, List.getElem?_toArray, List.getElem?_cons_zero, List.getElem?_cons_succ] at hc0 hc1
      refine bodyPost_ret (v := .agg #[U64 zh, U64 zl]) ?_ rfl ⟨by rw [Hs.out], below_turn HS.out.2 hT (fun t ht => by simp at ht; omega) (by have := HS.out.1.lt; omega)⟩
      simp [results, Try.results29, go_sem, hc0, hc1]
end Go.Proofs.Ytgkkafkdgmdihaa
