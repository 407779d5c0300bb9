/-
  Elements of GHASH's field: times.
  Elements of GHASH's field: read, write, Times, GHASH.
-/
import Derived.Test.YtiocmebcbhbcmaaZzRot
namespace Go.Proofs.Ytiocmebcbhbcmaa
set_option maxRecDepth 100000
open Go.RowKit

theorem U64_lit (n : Nat) (h : n < 18446744073709551616) : (.int .u64 (n : Int) : Value) = U64 (UInt64.ofNat n) := by
  symm
  refine U64_eq ?_
  rw [UInt64.toNat_ofNat', Nat.mod_eq_of_lt (by omega)]
theorem andI_U64 (t : TypeId) (x : UInt64) (n : Int) (h0 : 0 ≤ n) (h : n < 18446744073709551616) : binOp .and t (U64 x) (.int .u64 n) = pure (U64 (x &&& UInt64.ofNat n.toNat)) := by
  obtain ⟨m, rfl⟩ := Int.eq_ofNat_of_zero_le h0
  rw [U64_lit m (by omega), and_U64]; rfl
theorem andIL_U64 (t : TypeId) (x : UInt64) (n : Int) (h0 : 0 ≤ n) (h : n < 18446744073709551616) : binOp .and t (.int .u64 n) (U64 x) = pure (U64 (UInt64.ofNat n.toNat &&& x)) := by
  obtain ⟨m, rfl⟩ := Int.eq_ofNat_of_zero_le h0
  rw [U64_lit m (by omega), and_U64]; rfl
theorem neg_U64 (x : UInt64) : Op.unary .neg (U64 x) = pure (U64 (-x)) := by
  show (pure (.int .u64 (IntKind.u64.wrap (0 - (x.toNat : Int)))) : Sem Value) = _
  rw [wrap_u64, ← U64_eq]
  have h := x.toNat_lt
  rw [UInt64.toNat_neg]
  simp only [UInt64.size]
  omega
attribute [local go_sem] andI_U64 andIL_U64 neg_U64 shr_U64
def bitE (h l : UInt64) (i : Nat) : UInt64 := (if 63 < i then l >>> UInt64.ofNat (63 - i % 64) else h >>> UInt64.ofNat (63 - i % 64)) &&& 1
structure Es where
  zh : UInt64
  zl : UInt64
  yh : UInt64
  yl : UInt64
def eStep (xh xl : UInt64) (i : Nat) (s : Es) : Es :=
  { zh := s.zh ^^^ (s.yh &&& -(bitE xh xl i)), zl := s.zl ^^^ (s.yl &&& -(bitE xh xl i)),
    yh := (s.yh >>> 1) ^^^ (16212958658533785600 &&& -(s.yl &&& 1)), yl := (s.yl >>> 1) ||| (s.yh <<< 63) }
def eF (xh xl yh yl : UInt64) : Nat → Es
  | 0 => ⟨0, 0, yh, yl⟩
  | i + 1 => eStep xh xl i (eF xh xl yh yl i)
def El (h l : UInt64) : Value := .agg #[U64 h, U64 l]
theorem eRound {X : Nat} {w wr : World} {xh xl vh vl zh zl : UInt64} (h1 : Blk wr X 88 #[U64 xh, U64 xl]) (h2 : Blk wr (X + 1) 88 #[U64 vh, U64 vl]) (h3 : Blk wr (X + 1 + 1 + 1) 88 #[U64 zh, U64 zl]) (h4 : Blk wr (X + 1 + 1) 88 #[U64 0, U64 0]) (h5 : Below X w wr) (b : UInt64) :
    Blk ((((wr.setCell ⟨X + 1 + 1 + 1, 0, none⟩ (U64 (zh ^^^ vh &&& -b))).setCell ⟨X + 1 + 1 + 1, 1, none⟩ (U64 (zl ^^^ vl &&& -b))).setCell ⟨X + 1, 1, none⟩ (U64 (vl >>> 1 ||| vh <<< 63))).setCell ⟨X + 1, 0, none⟩ (U64 (vh >>> 1 ^^^ 16212958658533785600 &&& -(vl &&& 1)))) X 88 #[U64 xh, U64 xl] ∧
    Blk ((((wr.setCell ⟨X + 1 + 1 + 1, 0, none⟩ (U64 (zh ^^^ vh &&& -b))).setCell ⟨X + 1 + 1 + 1, 1, none⟩ (U64 (zl ^^^ vl &&& -b))).setCell ⟨X + 1, 1, none⟩ (U64 (vl >>> 1 ||| vh <<< 63))).setCell ⟨X + 1, 0, none⟩ (U64 (vh >>> 1 ^^^ 16212958658533785600 &&& -(vl &&& 1)))) (X + 1) 88 #[U64 (vh >>> 1 ^^^ 16212958658533785600 &&& -(vl &&& 1)), U64 (vl >>> 1 ||| vh <<< 63)] ∧
    Blk ((((wr.setCell ⟨X + 1 + 1 + 1, 0, none⟩ (U64 (zh ^^^ vh &&& -b))).setCell ⟨X + 1 + 1 + 1, 1, none⟩ (U64 (zl ^^^ vl &&& -b))).setCell ⟨X + 1, 1, none⟩ (U64 (vl >>> 1 ||| vh <<< 63))).setCell ⟨X + 1, 0, none⟩ (U64 (vh >>> 1 ^^^ 16212958658533785600 &&& -(vl &&& 1)))) (X + 1 + 1 + 1) 88 #[U64 (zh ^^^ vh &&& -b), U64 (zl ^^^ vl &&& -b)] ∧
    Blk ((((wr.setCell ⟨X + 1 + 1 + 1, 0, none⟩ (U64 (zh ^^^ vh &&& -b))).setCell ⟨X + 1 + 1 + 1, 1, none⟩ (U64 (zl ^^^ vl &&& -b))).setCell ⟨X + 1, 1, none⟩ (U64 (vl >>> 1 ||| vh <<< 63))).setCell ⟨X + 1, 0, none⟩ (U64 (vh >>> 1 ^^^ 16212958658533785600 &&& -(vl &&& 1)))) (X + 1 + 1) 88 #[U64 0, U64 0] ∧
    Below X w ((((wr.setCell ⟨X + 1 + 1 + 1, 0, none⟩ (U64 (zh ^^^ vh &&& -b))).setCell ⟨X + 1 + 1 + 1, 1, none⟩ (U64 (zl ^^^ vl &&& -b))).setCell ⟨X + 1, 1, none⟩ (U64 (vl >>> 1 ||| vh <<< 63))).setCell ⟨X + 1, 0, none⟩ (U64 (vh >>> 1 ^^^ 16212958658533785600 &&& -(vl &&& 1)))) := by
  refine ⟨(((h1.far ?_ _).far ?_ _).far ?_ _).far ?_ _, ?_, ?_, (((h4.far ?_ _).far ?_ _).far ?_ _).far ?_ _, ?_⟩
  any_goals (show _ ≠ _; simp; try omega)
  · exact (((h2.far (by show X + 1 ≠ X + 1 + 1 + 1; omega) _).far (by show X + 1 ≠ X + 1 + 1 + 1; omega) _).set_ 1 _).set_ 0 _
  · exact ((((h3.set_ 0 _).set_ 1 _).far (by show X + 1 + 1 + 1 ≠ X + 1; omega) _).far (by show X + 1 + 1 + 1 ≠ X + 1; omega) _)
  · have hT : Turn [X + 1, X + 1 + 1 + 1] wr ((((wr.setCell ⟨X + 1 + 1 + 1, 0, none⟩ (U64 (zh ^^^ vh &&& -b))).setCell ⟨X + 1 + 1 + 1, 1, none⟩ (U64 (zl ^^^ vl &&& -b))).setCell ⟨X + 1, 1, none⟩ (U64 (vl >>> 1 ||| vh <<< 63))).setCell ⟨X + 1, 0, none⟩ (U64 (vh >>> 1 ^^^ 16212958658533785600 &&& -(vl &&& 1)))) :=
      ((((Turn.refl _ _).setCell (.inl (by simp)) _).setCell (.inl (by simp)) _).setCell (.inl (by simp)) _).setCell (.inl (by simp)) _
    exact below_turn h5 hT (fun t ht => by simp at ht; omega) (by have := h1.lt; omega)
set_option maxHeartbeats 4000000 in
theorem etimes_any (xh xl yh yl : UInt64) (w : World) :
    Calls Try.prog 88 #[El xh xl, El yh yl] w fun e w' => e = .returned (El (eF xh xl yh yl 128).zh (eF xh xl yh yl 128).zl) ∧ Below w.heap.size w w' := by
  obtain ⟨X, hX⟩ : ∃ X, w.heap.size = X := ⟨_, rfl⟩
  obtain ⟨w1, hw1⟩ : ∃ w1, (((w.alloc (.cells #[U64 xh, U64 xl] 88)).alloc (.cells #[U64 yh, U64 yl] 88)).alloc (.cells #[.int .u64 0, .int .u64 0] 88)).alloc (.cells #[.int .u64 0, .int .u64 0] 88) = w1 := ⟨_, rfl⟩
  unfold El
  go_enter Try.func88, Try.ntmps88
  go_wp2
  have hxb : Blk w1 X 88 #[U64 xh, U64 xl] := by rw [← hw1, ← hX]; exact (((Blk.new _ _ _).alloc _).alloc _).alloc _
  have hyb : Blk w1 (X + 1) 88 #[U64 yh, U64 yl] := by
    have := Blk.new (w.alloc (.cells #[U64 xh, U64 xl] 88)) 88 #[U64 yh, U64 yl]
    rw [show (w.alloc (.cells #[U64 xh, U64 xl] 88)).heap.size = X + 1 by simp [hX]] at this
    rw [← hw1]; exact (this.alloc _).alloc _
  have hzb : Blk w1 (X + 1 + 1 + 1) 88 #[U64 0, U64 0] := by
    have := Blk.new (((w.alloc (.cells #[U64 xh, U64 xl] 88)).alloc (.cells #[U64 yh, U64 yl] 88)).alloc (.cells #[.int .u64 0, .int .u64 0] 88)) 88 #[.int .u64 0, .int .u64 0]
    rw [show (((w.alloc (.cells #[U64 xh, U64 xl] 88)).alloc (.cells #[U64 yh, U64 yl] 88)).alloc (.cells #[.int .u64 0, .int .u64 0] 88)).heap.size = X + 1 + 1 + 1 by simp [hX]] at this
    rw [← hw1]; exact this
  have hrb : Blk w1 (X + 1 + 1) 88 #[U64 0, U64 0] := by
    have := Blk.new ((w.alloc (.cells #[U64 xh, U64 xl] 88)).alloc (.cells #[U64 yh, U64 yl] 88)) 88 #[.int .u64 0, .int .u64 0]
    rw [show ((w.alloc (.cells #[U64 xh, U64 xl] 88)).alloc (.cells #[U64 yh, U64 yl] 88)).heap.size = X + 1 + 1 by simp [hX]] at this
    rw [← hw1]; exact this.alloc _
  have hB : Below X w w1 := by
    rw [← hw1, ← hX]
    exact ((((Below.refl _ _).alloc (by simp) _).alloc (by simp) _).alloc (by simp; omega) _).alloc (by simp; omega) _
  have HH := Lib.hid (And.intro hxb (And.intro hyb (And.intro hzb (And.intro hrb hB))))
  clear hxb hyb hzb hrb hB hw1
  go_loopw [9] (fun iv wr => ∃ i : Nat, i ≤ 128 ∧ iv = .int .i64 (i : Int) ∧ Blk wr X 88 #[U64 xh, U64 xl] ∧ Blk wr (X + 1) 88 #[U64 (eF xh xl yh yl i).yh, U64 (eF xh xl yh yl i).yl] ∧ Blk wr (X + 1 + 1 + 1) 88 #[U64 (eF xh xl yh yl i).zh, U64 (eF xh xl yh yl i).zl] ∧ Blk wr (X + 1 + 1) 88 #[U64 0, U64 0] ∧ Below X w wr) (fun iv _ => 128 - (intOf iv).toNat)
  case atStart => exact ⟨0, by omega, rfl, HH.out.1, HH.out.2.1, HH.out.2.2.1, HH.out.2.2.2.1, HH.out.2.2.2.2⟩
  case round =>
    obtain ⟨i, hi, rfl, h1, h2, h3, h4, h5⟩ := hrel
    by_cases hlt : i < 128
    · have hq : (i : Int) < 128 := by omega
      have hst : eF xh xl yh yl (i + 1) = eStep xh xl i (eF xh xl yh yl i) := rfl
      generalize eF xh xl yh yl i = s at *
      obtain ⟨zh, zl, vh, vl⟩ := s
      have x0 := h1.cell 0
      have x1 := h1.cell 1
      have y0 := h2.cell 0
      have y1 := h2.cell 1
      have z0 := h3.cell 0
      have z1 := h3.cell 1
      have fy0 := h2.frozen 0
      have fy1 := h2.frozen 1
      have fz0 := h3.frozen 0
      have fz1 := h3.frozen 1
      simp only [List.getElem?_toArray, List.getElem?_cons_zero, List.getElem?_cons_succ] at x0 x1 y0 y1 z0 z1
      obtain ⟨m, hm⟩ : ∃ m, m = i % 64 := ⟨_, rfl⟩
      have g0 : (i : Int).tmod 64 = (m : Int) := by rw [Int.tmod_eq_emod_of_nonneg (by omega)]; omega
      have g0' : (i : Int) % 64 = (m : Int) := by omega
      obtain ⟨sh, hsh⟩ : ∃ sh, sh = 63 - i % 64 := ⟨_, rfl⟩
      have hsh' : sh < 64 := by omega
      have g1 : IntKind.i64.wrap (63 - (m : Int)) = (sh : Int) := by rw [IntWalk.i64_in _ (by omega)]; omega
      have hbt : bitE xh xl i = (if 63 < i then xl >>> UInt64.ofNat sh else xh >>> UInt64.ofNat sh) &&& 1 := by unfold bitE; rw [hsh]
      have HS := Lib.hid (And.intro h1 (And.intro h2 (And.intro h3 (And.intro h4 (And.intro h5 (And.intro hst (And.intro hbt hm)))))))
      have fin : ∀ b : UInt64, _ := fun b => eRound (w := w) (X := X) h1 h2 h3 h4 h5 b
      clear h1 h2 h3 h4 h5 hst hbt hsh
      by_cases h63 : 63 < i
      · have k1 : (63 : Int) < i := by omega
        have k2 : decide ((63 : Int) < i) = true := decide_eq_true k1
        clear hm
        go_wp2
        have hb : bitE xh xl i = xl >>> UInt64.ofNat sh &&& 1 := by rw [HS.out.2.2.2.2.2.2.1, if_pos h63]
        refine ⟨⟨i + 1, by omega, by go_num, ?_⟩, by simp [intOf]; omega⟩
        rw [HS.out.2.2.2.2.2.1]
        unfold eStep
        rw [hb]
        exact fin _
      · have k1 : ¬ (63 : Int) < i := by omega
        have k2 : decide ((63 : Int) < i) = false := decide_eq_false k1
        clear hm
        go_wp2
        have hb : bitE xh xl i = xh >>> UInt64.ofNat sh &&& 1 := by rw [HS.out.2.2.2.2.2.2.1, if_neg h63]
        refine ⟨⟨i + 1, by omega, by go_num, ?_⟩, by simp [intOf]; omega⟩
        rw [HS.out.2.2.2.2.2.1]
        unfold eStep
        rw [hb]
        exact fin _
    · obtain rfl : i = 128 := by omega
      have hq : ¬ ((128 : Int) < 128) := by omega
      generalize hs : eF xh xl yh yl 128 = s at *
      obtain ⟨zh, zl, vh, vl⟩ := s
      have Hs := Lib.hid hs
      clear hs
      have z0 := h3.cell 0
      have z1 := h3.cell 1
      have r0 := h4.cell 0
      have r1 := h4.cell 1
      have fr0 := h4.frozen 0
      have fr1 := h4.frozen 1
      simp only [List.getElem?_toArray, List.getElem?_cons_zero, List.getElem?_cons_succ] at z0 z1 r0 r1
      have HS := Lib.hid (And.intro h4 h5)
      clear h1 h2 h3 h4 h5 hi hlt
      go_wp2
      have hT : Turn [X + 1 + 1] wr ((wr.setCell ⟨X + 1 + 1, 0, none⟩ (U64 zh)).setCell ⟨X + 1 + 1, 1, none⟩ (U64 zl)) := ((Turn.refl _ _).setCell (.inl (by simp)) _).setCell (.inl (by simp)) _
      have hB5 := (HS.out.1.set_ 0 (U64 zh)).set_ 1 (U64 zl)
      have hc0 := hB5.cell 0
      have hc1 := hB5.cell 1
      simp only [List.setIfInBounds_toArray, List.set_cons_zero, List.set_cons_succ, List.getElem?_toArray, List.getElem?_cons_zero, List.getElem?_cons_succ] at hc0 hc1
      refine bodyPost_ret (v := .agg #[U64 zh, U64 zl]) ?_ rfl ⟨by rw [Hs.out], below_turn HS.out.2 hT (fun t ht => by simp at ht; omega) (by have := HS.out.1.lt; omega)⟩
      simp [results, Try.results88, go_sem, hc0, hc1]
end Go.Proofs.Ytiocmebcbhbcmaa
namespace Go.Proofs.Ytiocmebcbhbcmaa
set_option maxRecDepth 100000
open Go.RowKit

def rd16 (l : List UInt8) : UInt64 × UInt64 := (word64 l 0, word64 (l.drop 8) 0)
def wr16 (h l : UInt64) : List UInt8 := bytes64 h ++ bytes64 l
set_option maxHeartbeats 1000000 in
theorem eread_any (b off c : Nat) (l : List UInt8) (w : World) (h : At w b off l) (hl : l.length = 16) (hc : 16 ≤ c) :
    Calls Try.prog 87 #[.slice (some ⟨b, off, none⟩) 16 c] w fun e w' => e = .returned (El (rd16 l).1 (rd16 l).2) ∧ Below w.heap.size w w' := by
  obtain ⟨w1, hw1⟩ : ∃ w1, w.alloc (.cells #[.int .u64 0, .int .u64 0] 88) = w1 := ⟨_, rfl⟩
  have hb1 : Below w.heap.size w w1 := by rw [← hw1]; exact (Below.refl _ _).alloc (Nat.le_refl _) _
  have hR : Blk w1 w.heap.size 88 #[.int .u64 0, .int .u64 0] := by rw [← hw1]; exact Blk.new _ _ _
  have hz1 : w1.heap.size = w.heap.size + 1 := by rw [← hw1]; simp
  have hlt := h.1
  have hAt : ∀ wq, Turn [w.heap.size] w1 wq → At wq b off l := fun wq hq =>
    (h.keep hb1.size (hb1.block b hlt)).keep hq.size (hq.block b (by omega) (by simp; omega))
  have hG1 : ∀ wq, Turn [w.heap.size] w1 wq → Calls Try.prog 92 #[.slice (some ⟨b, off, none⟩) 16 c] wq fun e w' => e = .returned (U64 (word64 l 0)) ∧ ∃ k, w' = wq.drewN k := fun wq hq => get64_any b off 16 c l wq (hAt wq hq) hl.symm (by omega)
  have hG2 : ∀ wq, Turn [w.heap.size] w1 wq → Calls Try.prog 92 #[.slice (some ⟨b, off + 8, none⟩) 8 (c - 8)] wq fun e w' => e = .returned (U64 (word64 (l.drop 8) 0)) ∧ ∃ k, w' = wq.drewN k := fun wq hq => get64_any b (off + 8) 8 (c - 8) (l.drop 8) wq ((hAt wq hq).drop 8) (by simp [hl]) (by omega)
  have hr : ∀ wq, Old w1 wq → wq.cell? ⟨w.heap.size, 0, none⟩ = some (.int .u64 0) ∧ wq.cell? ⟨w.heap.size, 1, none⟩ = some (.int .u64 0) ∧ wq.frozen? ⟨w.heap.size, 0, none⟩ = false ∧ wq.frozen? ⟨w.heap.size, 1, none⟩ = false := fun wq hq => by
    have hb := hR.below hq
    have a0 := hb.cell 0
    have a1 := hb.cell 1
    simp only [List.getElem?_toArray, List.getElem?_cons_zero, List.getElem?_cons_succ] at a0 a1
    exact ⟨a0, a1, hb.frozen 0, hb.frozen 1⟩
  have hfin : ∀ (a : Array Value) (wq : World), Old w1 wq → Turn [w.heap.size] w1 ((wq.setCell ⟨w.heap.size, 0, none⟩ (U64 (word64 l 0))).setCell ⟨w.heap.size, 1, none⟩ (U64 (word64 (l.drop 8) 0))) → a.getD 2 undef = .pointer (some ⟨w.heap.size, 0, none⟩) →
      bodyPost Try.prog Try.f87 (fun e w' => e = .returned (El (rd16 l).1 (rd16 l).2) ∧ Below w.heap.size w w') .ret { tmps := a, defers := [] } ((wq.setCell ⟨w.heap.size, 0, none⟩ (U64 (word64 l 0))).setCell ⟨w.heap.size, 1, none⟩ (U64 (word64 (l.drop 8) 0))) := fun a wq ho ht ha => by
    have hB5 := ((hR.below ho).set_ 0 (U64 (word64 l 0))).set_ 1 (U64 (word64 (l.drop 8) 0))
    have hc0 := hB5.cell 0
    have hc1 := hB5.cell 1
    simp only [List.setIfInBounds_toArray, List.set_cons_zero, List.set_cons_succ, List.getElem?_toArray, List.getElem?_cons_zero, List.getElem?_cons_succ] at hc0 hc1
    refine bodyPost_ret (v := .agg #[U64 (word64 l 0), U64 (word64 (l.drop 8) 0)]) ?_ rfl ⟨rfl, below_turn hb1 ht (by simp) hb1.size⟩
    have ha' : a[2]?.getD undef = .pointer (some ⟨w.heap.size, 0, none⟩) := by simpa using ha
    simp [results, Try.results87, go_sem, hc0, hc1, ha']
  have HG1 := Lib.hid hG1
  have HG2 := Lib.hid hG2
  have HR := Lib.hid hr
  have fin := hfin
  have c8 : ¬ c = 8 := by omega
  have c8' : 8 ≤ c := by omega
  have c16 : (16 : Int) ≤ c := by omega
  clear hG1 hG2 hr hfin hAt hR hb1 h hl
  have Fin := Lib.hid fin
  clear fin
  go_enter Try.func87, Try.ntmps87
  go_upto_region 1 with fail
  clear hw1
  refine region_turn [w.heap.size] (by kernel_rfl) (fun wd hOld hHeld hSz => ?_)
  have HOL := Lib.hid hOld
  clear hOld
  refine takeL (i := 0) (v := ?_) rfl (by kernel_rfl) (by kernel_rfl) (by kernel_rfl) (fun _ _ _ h => h) (Or.inl ⟨by rfl, ?_⟩) hHeld ?_
  rotate_left
  focus (intro wq hSw; clear hSw; go_simp; try with_reducible rfl)
  try simp only [Act.put, List.setIfInBounds_toArray, List.set_cons_zero, List.set_cons_succ]
  refine takeL (i := 2) (v := ?_) rfl (by kernel_rfl) (by kernel_rfl) (by kernel_rfl) (fun _ _ _ h => h) (Or.inl ⟨by rfl, ?_⟩) hHeld ?_
  rotate_left
  focus (intro wq hSw; clear hSw; go_simp; try with_reducible rfl)
  try simp only [Act.put, List.setIfInBounds_toArray, List.set_cons_zero, List.set_cons_succ]
  refine takeL (i := 3) (v := ?_) rfl (by kernel_rfl) (by kernel_rfl) (by kernel_rfl) (fun _ _ _ h => h) (Or.inl ⟨by rfl, ?_⟩) hHeld ?_
  rotate_left
  focus (intro wq hSw; clear hSw; go_simp; try with_reducible rfl)
  try simp only [Act.put, List.setIfInBounds_toArray, List.set_cons_zero, List.set_cons_succ]
  refine wpAnyH_ready (rs := [1]) (by kernel_rfl) (by simp) ?_
  refine consL rfl (fun K hK => ?_) AllReadyH.nil
  go_simp
  refine (HG1.out _ hHeld).mono ?_; rintro e wq ⟨rfl, k1, rfl⟩
  refine hK.out _ _ (hHeld.drewN _) (fun hHeld => ?_)
  clear hK K
  try simp only [Act.put, List.setIfInBounds_toArray, List.set_cons_zero, List.set_cons_succ]
  refine wpAnyH_ready (rs := [4]) (by kernel_rfl) (by simp) ?_
  refine consL rfl (fun K hK => ?_) AllReadyH.nil
  go_simp
  refine (HG2.out _ hHeld).mono ?_; rintro e wq ⟨rfl, k2, rfl⟩
  refine hK.out _ _ (hHeld.drewN _) (fun hHeld => ?_)
  clear hK K
  try simp only [Act.put, List.setIfInBounds_toArray, List.set_cons_zero, List.set_cons_succ]
  refine takeL (i := 5) (v := ?_) rfl (by kernel_rfl) (by kernel_rfl) (by kernel_rfl) (fun _ _ _ h => h) (Or.inl ⟨by rfl, ?_⟩) hHeld ?_
  rotate_left
  focus (intro wq hSw; clear hSw; go_simp; try with_reducible rfl)
  try simp only [Act.put, List.setIfInBounds_toArray, List.set_cons_zero, List.set_cons_succ]
  obtain ⟨r0, r1, f0, f1⟩ := HR.out _ HOL.out
  refine wpAnyH_ready (rs := [6]) (by kernel_rfl) (by simp) ?_
  refine consL rfl (fun K hK => ?_) AllReadyH.nil
  go_simp
  refine hK.out _ _ (((Turn.of_below [w.heap.size] ((Old.drewN HOL.out _))).setCell (p := ⟨w.heap.size, 0, none⟩) (.inl (by simp)) _).setCell (p := ⟨w.heap.size, 1, none⟩) (.inl (by simp)) _) (fun hHeld => ?_)
  clear hK K
  try simp only [Act.put, List.setIfInBounds_toArray, List.set_cons_zero, List.set_cons_succ]
  refine wpAnyH_done (by kernel_rfl) ?_ _
  refine NoPanic.normal ?_
  have HH2 := Lib.hid hHeld
  clear r0 r1 f0 f1 hHeld
  go_wp2_with fail
  exact Fin.out _ _ (Old.drewN HOL.out _) HH2.out rfl
set_option maxHeartbeats 1000000 in
theorem ewrite_any (h l : UInt64) (w : World) :
    Calls Try.prog 89 #[El h l] w fun e w' => ∃ g c, e = .returned (.slice (some ⟨g, 0, none⟩) 16 c) ∧ Own w' w.heap.size (.slice (some ⟨g, 0, none⟩) 16 c) (wr16 h l) ∧ Below w.heap.size w w' := by
  obtain ⟨w1, hw1⟩ : ∃ w1, w.alloc (.cells #[U64 h, U64 l] 88) = w1 := ⟨_, rfl⟩
  have hb1 : Below w.heap.size w w1 := by rw [← hw1]; exact (Below.refl _ _).alloc (Nat.le_refl _) _
  have hR : Blk w1 w.heap.size 88 #[U64 h, U64 l] := by rw [← hw1]; exact Blk.new _ _ _
  have hz1 : w1.heap.size = w.heap.size + 1 := by rw [← hw1]; simp
  have hr : ∀ wq, Old w1 wq → wq.cell? ⟨w.heap.size, 0, none⟩ = some (U64 h) ∧ wq.cell? ⟨w.heap.size, 1, none⟩ = some (U64 l) := fun wq hq => by
    have hb := hR.below hq
    have a0 := hb.cell 0
    have a1 := hb.cell 1
    simp only [List.getElem?_toArray, List.getElem?_cons_zero, List.getElem?_cons_succ] at a0 a1
    exact ⟨a0, a1⟩
  have HR := Lib.hid hr
  have HB1 := Lib.hid hb1
  clear hr hR hb1
  unfold El
  go_enter Try.func89, Try.ntmps89
  go_upto_region 1 with fail
  clear hw1
  refine region_old (by kernel_rfl) (fun wd hHeld hSz => ?_)
  have HSz := Lib.hid hSz
  clear hSz
  refine takeL (i := 0) (v := ?_) rfl (by kernel_rfl) (by kernel_rfl) (by kernel_rfl) (fun _ _ _ h => h) (Or.inl ⟨by rfl, ?_⟩) hHeld ?_
  rotate_left
  focus (intro wq hSw; clear hSw; go_simp; try with_reducible rfl)
  try simp only [Act.put, List.setIfInBounds_toArray, List.set_cons_zero, List.set_cons_succ]
  refine takeL (i := 1) (v := ?_) rfl (by kernel_rfl) (by kernel_rfl) (by kernel_rfl) (fun _ _ _ h => h) (Or.inl ⟨by rfl, ?_⟩) hHeld ?_
  rotate_left
  focus (intro wq hSw; obtain ⟨a0, a1⟩ := HR.out wq hSw; clear hSw; go_simp; try with_reducible rfl)
  try simp only [Act.put, List.setIfInBounds_toArray, List.set_cons_zero, List.set_cons_succ]
  refine takeL (i := 3) (v := ?_) rfl (by kernel_rfl) (by kernel_rfl) (by kernel_rfl) (fun _ _ _ h => h) (Or.inl ⟨by rfl, ?_⟩) hHeld ?_
  rotate_left
  focus (intro wq hSw; clear hSw; go_simp; try with_reducible rfl)
  try simp only [Act.put, List.setIfInBounds_toArray, List.set_cons_zero, List.set_cons_succ]
  refine takeL (i := 4) (v := ?_) rfl (by kernel_rfl) (by kernel_rfl) (by kernel_rfl) (fun _ _ _ h => h) (Or.inl ⟨by rfl, ?_⟩) hHeld ?_
  rotate_left
  focus (intro wq hSw; obtain ⟨a0, a1⟩ := HR.out wq hSw; clear hSw; go_simp; try with_reducible rfl)
  try simp only [Act.put, List.setIfInBounds_toArray, List.set_cons_zero, List.set_cons_succ]
  have hbw : w1.heap.size ≤ wd.heap.size := hHeld.size
  refine wpAnyH_ready (rs := [2]) (by kernel_rfl) (by simp) ?_
  refine consL rfl (fun K hK => ?_) AllReadyH.nil
  go_simp
  refine (append64_any (.slice none 0 0) h [] wd w1.heap.size (World.ownsRow_nil _ _ _ _) hbw (by simp)).mono ?_
  rintro e wx ⟨v1, rfl, ho1, ht1, hv1⟩
  have hHeld' : Old w1 wx := below_turn hHeld ht1 (fun t ht => by simp [Value.ownBlock] at ht) hHeld.size
  refine hK.out _ _ hHeld' (fun hHeld => ?_)
  clear hK K hHeld'
  try simp only [Act.put, List.setIfInBounds_toArray, List.set_cons_zero, List.set_cons_succ]
  rw [List.nil_append] at ho1
  have hO1 := Lib.hid ho1
  clear ho1 ht1
  refine wpAnyH_ready (rs := [5]) (by kernel_rfl) (by simp) ?_
  refine consL rfl (fun K hK => ?_) AllReadyH.nil
  go_simp
  refine (append64_any v1 l (bytes64 h) wx w1.heap.size hO1.out hHeld.size (by simp [bytes64])).mono ?_
  rintro e wy ⟨v2, rfl, ho2, ht2, hv2⟩
  have hHeld' : Old w1 wy := below_turn hHeld ht2 (fun t ht => (hO1.out.lt (show v1.ownBlock = some t by simpa using ht)).1) hHeld.size
  refine hK.out _ _ hHeld' (fun hHeld => ?_)
  clear hK K hHeld'
  try simp only [Act.put, List.setIfInBounds_toArray, List.set_cons_zero, List.set_cons_succ]
  obtain ⟨g, c, rfl⟩ := ho2.form hv2
  have hO2 := Lib.hid ho2
  clear ho2 ht2 hv2 hv1
  refine takeL (i := 6) (v := ?_) rfl (by kernel_rfl) (by kernel_rfl) (by kernel_rfl) (fun _ _ _ h => h) (Or.inl ⟨by rfl, ?_⟩) hHeld ?_
  rotate_left
  focus (intro wq hSw; clear hSw; go_simp; try with_reducible rfl)
  try simp only [Act.put, List.setIfInBounds_toArray, List.set_cons_zero, List.set_cons_succ]
  refine wpAnyH_done (by kernel_rfl) ?_ _
  refine NoPanic.normal ?_
  have HH := Lib.hid hHeld
  clear hHeld
  go_wp2_with fail
  go_ret
  exact ⟨g, c, rfl, hO2.out.mono (by omega), HB1.out.trans (HH.out.mono (by omega))⟩
end Go.Proofs.Ytiocmebcbhbcmaa
