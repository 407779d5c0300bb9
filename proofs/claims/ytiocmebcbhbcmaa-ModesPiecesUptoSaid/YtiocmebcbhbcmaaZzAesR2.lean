/-
  Modes, the document's answer: double, CMAC.
  The reference's product in the field of GHASH.
-/
import Derived.Test.YtiocmebcbhbcmaaZzMr4
import Derived.Test.YtiocmebcbhbcmaaMo21
import Derived.Test.YtiocmebcbhbcmaaZzAesR1
import Derived.Deep.DeepCutAuto
namespace Go.Proofs.Ytiocmebcbhbcmaa
set_option maxRecDepth 100000
open Go.RowKit

theorem ge128 (x : UInt8) : geN x 128 = (x >>> 7 == 1) := by
  revert x
  refine all8 ?_
  decide +kernel
theorem sr70 (x : UInt8) : x >>> 7 = 0 ∨ x >>> 7 = 1 := by
  revert x
  refine all8 ?_
  decide +kernel
theorem or1 (x : UInt8) : (x <<< 1) ||| (1 : UInt8) = (x <<< 1) + 1 := by
  revert x
  refine all8 ?_
  decide +kernel
attribute [local go_sem] addI_B
theorem xorL_comm (a : List UInt8) : ∀ b : List UInt8, xorL a b = xorL b a := by
  unfold xorL
  induction a with
  | nil => intro b; simp
  | cons x a ih => intro b; cases b with
    | nil => simp
    | cons y b => simp [ih b, UInt8.xor_comm]
theorem xorL_assoc (a : List UInt8) : ∀ b c : List UInt8, xorL (xorL a b) c = xorL a (xorL b c) := by
  unfold xorL
  induction a with
  | nil => intro b c; simp
  | cons x a ih => intro b c; cases b with
    | nil => simp
    | cons y b => cases c with
      | nil => simp
      | cons z c => simp [ih b c, UInt8.xor_assoc]
set_option maxHeartbeats 2000000 in
theorem rdouble_any (A : Option Addr) (c : Nat) (b : List UInt8) (w : World) (h : Rd w A 16 c b) :
    Calls Try.prog 50 #[.slice A 16 c] w fun e w' => e = .returned (.slice (some ⟨w.heap.size, 0, none⟩) 16 16) ∧ Own w' w.heap.size (.slice (some ⟨w.heap.size, 0, none⟩) 16 16) (dblL b) ∧ Old w w' := by
  have hbl : b.length = 16 := h.1.symm
  have hc16 := h.2.1
  obtain ⟨bb, ob, rfl, hat⟩ := h.addr (by decide)
  obtain ⟨X, hX⟩ : ∃ X, w.heap.size = X := ⟨_, rfl⟩
  have hmk := Try.prog_make 16 (by omega) w
  obtain ⟨w1, hw1⟩ : ∃ w1, w.alloc (.cells (madeCells #[.int .u8 0] 16) 5) = w1 := ⟨_, rfl⟩
  have hO1 : Own w1 X (.slice (some ⟨X, 0, none⟩) 16 16) (zs 16) := by rw [← hw1, ← hX]; exact Own.made w 16 (by unfold maxLen; omega)
  have hB1 : Old w w1 := by rw [← hw1]; exact (Old.refl _).alloc _
  rw [hw1, hX, show ((16 : Nat) : Int) = 16 from rfl] at hmk
  have hbX : bb < X := by rw [← hX]; exact hat.1
  have HH := Lib.hid (And.intro hat (And.intro hbl (And.intro hO1 hB1)))
  have HX := Lib.hid hX
  clear h hat hbl hO1 hB1 hw1
  rw [hX]
  clear hX
  have hld : ∀ (wr : World), Old w wr → ∀ i x, b[i]? = some x → wr.cell? ⟨bb, ob + i, none⟩ = some (B x) := fun wr hO i x hx => cellOld' hO (HH.out.1.2 i x hx)
  have HL := Lib.hid hld
  clear hld
  go_enter Try.func50, Try.ntmps50
  go_wp2_with fail
  clear hmk
  go_loopw [4] (fun iv wr => ∃ i : Nat, i ≤ 16 ∧ iv = .int .i64 (i : Int) ∧ Own wr X (.slice (some ⟨X, 0, none⟩) 16 16) (mid i (dblM b) (zs 16)) ∧ Old w wr) (fun iv _ => 16 - (intOf iv).toNat)
  case atStart => exact ⟨0, by omega, rfl, by rw [mid_zero]; exact HH.out.2.2.1, HH.out.2.2.2⟩
  case round =>
    obtain ⟨i, hi, rfl, hO, hB⟩ := hrel
    by_cases hlt : i < 16
    · have hq : (i : Int) < 16 := by omega
      obtain ⟨x, hx⟩ : ∃ x, b[i]? = some x := ⟨_, List.getElem?_eq_getElem (by rw [HH.out.2.1]; exact hlt)⟩
      obtain ⟨z, hz⟩ : ∃ z, (mid i (dblM b) (zs 16))[i]? = some z := ⟨_, List.getElem?_eq_getElem (by rw [← hO.len]; exact hlt)⟩
      have y0 := HL.out wr hB i x hx
      have y2 := hO.cell i z hz
      have y3 := hO.frozen i
      have hO2 := hO.set_ i (x <<< 1) hlt
      have hT2 : Turn [X] wr (wr.setCell ⟨X, i, none⟩ (B (x <<< 1))) := (Turn.refl _ _).setCell (p := ⟨X, i, none⟩) (.inl (by simp)) _
      have hB2 : Old w (wr.setCell ⟨X, i, none⟩ (B (x <<< 1))) := below_turn hB hT2 (by simp; rw [HX.out]; exact Nat.le_refl _) hB.size
      have hms := fun y (hy : (dblM b)[i]? = some y) => mid_set i (dblM b) (zs 16) y hy (by rw [zs_len]; exact hlt)
      obtain ⟨j, hj⟩ : ∃ j, i + 1 = j := ⟨_, rfl⟩
      have hji : (i : Int) + 1 = (j : Int) := by omega
      have hwi : IntKind.i64.wrap (j : Int) = (j : Int) := IntWalk.i64_in _ (by omega)
      by_cases h15 : i < 15
      · have h15j : (i : Int) < 15 := by omega
        have h15d : decide ((i : Int) < 15) = true := decide_eq_true h15j
        have hj16 : (j : Int) < 16 := by omega
        obtain ⟨x2, hx2⟩ : ∃ x2, b[j]? = some x2 := ⟨_, List.getElem?_eq_getElem (by rw [HH.out.2.1]; omega)⟩
        have y4 := HL.out _ hB2 j x2 hx2
        have hd : dblB b i = (x <<< 1) ||| (x2 >>> 7) := by unfold dblB; rw [if_pos h15, getD_some hx, hj, getD_some hx2]
        have hge := ge128 x2
        rcases sr70 x2 with h7 | h7
        · rw [h7] at hge hd
          have hge : geN x2 128 = false := hge
          have hd : dblB b i = x <<< 1 := by rw [hd]; simp
          rw [hms _ (by rw [dblM_at b i hlt, hd])] at hO2
          have HS := Lib.hid (And.intro hO2 hB2)
          have HW := Lib.hid hj
          clear hO hB hx hz hO2 hT2 hB2 hms hd hx2 h15 hj h7
          go_wp2_with fail
          go_roundw
          case rel => exact ⟨j, by omega, rfl, by rw [← HW.out]; exact HS.out.1, HS.out.2⟩
          case measure => have := HW.out; simp [intOf]; omega
        · rw [h7] at hge hd
          have hge : geN x2 128 = true := hge
          rw [or1] at hd
          have hO3 := hO2.set_ i ((x <<< 1) + 1) hlt
          have y5 := hO2.cell i (x <<< 1) (by rw [List.getElem?_set_self (by rw [← hO.len]; exact hlt)])
          have y6 := hO2.frozen i
          rw [List.set_set, hms _ (by rw [dblM_at b i hlt, hd])] at hO3
          obtain ⟨wB, hwB⟩ : ∃ wB, wr.setCell ⟨X, i, none⟩ (B (x <<< 1)) = wB := ⟨_, rfl⟩
          rw [hwB] at hO2 hB2 y4 y5 y6 hO3
          have hT3 : Turn [X] wB (wB.setCell ⟨X, i, none⟩ (B ((x <<< 1) + 1))) := (Turn.refl _ _).setCell (p := ⟨X, i, none⟩) (.inl (by simp)) _
          have hB3 : Old w (wB.setCell ⟨X, i, none⟩ (B ((x <<< 1) + 1))) := below_turn hB2 hT3 (by simp; rw [HX.out]; exact Nat.le_refl _) hB2.size
          have HS := Lib.hid (And.intro hO3 hB3)
          have HW := Lib.hid (And.intro hwB hj)
          clear hO hB hx hz hO2 hT2 hB2 hms hd hO3 hx2 hwB h15 hT3 hB3 hj h7
          go_upto_region 6 with fail
          rw [HW.out.1]
          go_wp2_with fail
          go_roundw
          case rel => exact ⟨j, by omega, rfl, by rw [← HW.out.2]; exact HS.out.1, HS.out.2⟩
          case measure => have := HW.out.2; simp [intOf]; omega
      · have h15j : ¬ (i : Int) < 15 := by omega
        have h15d : decide ((i : Int) < 15) = false := decide_eq_false h15j
        have hd : dblB b i = x <<< 1 := by unfold dblB; rw [if_neg h15, getD_some hx]
        rw [hms _ (by rw [dblM_at b i hlt, hd])] at hO2
        have HS := Lib.hid (And.intro hO2 hB2)
        have HW := Lib.hid hj
        clear hO hB hx hz hO2 hT2 hB2 hms hd h15 hj
        go_wp2_with fail
        go_roundw
        case rel => exact ⟨j, by omega, rfl, by rw [← HW.out]; exact HS.out.1, HS.out.2⟩
        case measure => have := HW.out; simp [intOf]; omega
    · obtain rfl : i = 16 := by omega
      have hq : ¬ ((16 : Nat) : Int) < 16 := by omega
      rw [mid_all _ _ 16 (dblM_len b) (zs_len 16)] at hO
      obtain ⟨x0, hx0⟩ : ∃ x, b[0]? = some x := ⟨_, List.getElem?_eq_getElem (by rw [HH.out.2.1]; omega)⟩
      have y0 := HL.out wr hB 0 x0 hx0
      rw [Nat.add_zero] at y0
      have y2 := hO.cell 15 _ (dblM_at b 15 (by omega))
      have y3 := hO.frozen 15
      have hd : dblL b = (dblM b).set 15 (dblB b 15 ^^^ ((x0 >>> 7) * 135)) := by unfold dblL; rw [getD_some hx0]
      obtain ⟨z, hz⟩ : ∃ z, dblB b 15 = z := ⟨_, rfl⟩
      have hge := ge128 x0
      rcases sr70 x0 with h7 | h7
      · rw [h7] at hge hd
        have hge : geN x0 128 = false := hge
        have hd2 : dblL b = dblM b := by
          rw [hd]
          have e : dblB b 15 ^^^ (0 * 135 : UInt8) = dblB b 15 := by simp
          rw [e]
          apply List.ext_getElem?
          intro k
          rw [List.getElem?_set]
          split
          · rename_i e
            subst e
            rw [if_pos (by rw [dblM_len]; omega), dblM_at b 15 (by omega)]
          · rfl
        rw [← hd2] at hO
        have HS := Lib.hid (And.intro hO hB)
        clear hO hB hx0 hd hd2 hz h7
        go_wp2_with fail
        go_ret
        exact ⟨rfl, HS.out.1, HS.out.2⟩
      · rw [h7] at hge hd
        have hge : geN x0 128 = true := hge
        rw [hz] at y2 hd
        have hO2 := hO.set_ 15 (z ^^^ 135) (by omega)
        rw [show (1 : UInt8) * 135 = 135 from rfl] at hd
        rw [← hd] at hO2
        have hT3 : Turn [X] wr (wr.setCell ⟨X, 15, none⟩ (B (z ^^^ 135))) := (Turn.refl _ _).setCell (p := ⟨X, 15, none⟩) (.inl (by simp)) _
        have hB3 : Old w (wr.setCell ⟨X, 15, none⟩ (B (z ^^^ 135))) := below_turn hB hT3 (by simp; rw [HX.out]; exact Nat.le_refl _) hB.size
        have HS := Lib.hid (And.intro hO2 hB3)
        clear hO hB hx0 hd hz hO2 hT3 hB3 h7
        go_wp2_with fail
        go_ret
        exact ⟨rfl, HS.out.1, HS.out.2⟩
end Go.Proofs.Ytiocmebcbhbcmaa
namespace Go.Proofs.Ytiocmebcbhbcmaa
open Go.RowKit
attribute [local go_sem] addI_B shr_B

/-- Byte k of v, turned by one bit to the right. -/
def shB (v : List UInt8) (k : Nat) : UInt8 := if 0 < k ∧ isN (v.getD (k - 1) 0 &&& 1) 1 = true then (v.getD k 0 >>> 1) + 128 else v.getD k 0 >>> 1
def shL (v : List UInt8) : List UInt8 := (List.range 16).map (shB v)
theorem shL_len (v : List UInt8) : (shL v).length = 16 := by simp [shL]
theorem shL_at (v : List UInt8) (k : Nat) (h : k < 16) : (shL v)[k]? = some (shB v k) := by unfold shL; rw [List.getElem?_map, List.getElem?_range h]; rfl
def rS (v : List UInt8) : List UInt8 := if isN (v.getD 15 0 &&& 1) 1 = true then (shL v).set 0 (shB v 0 ^^^ 225) else shL v
def bR (x : List UInt8) (i : Nat) : Bool := isN ((x.getD (i / 8) 0 >>> UInt8.ofNat (7 - i % 8)) &&& 1) 1
def rT (x y : List UInt8) : Nat → List UInt8 × List UInt8
  | 0 => (zs 16, y)
  | i + 1 => (if bR x i = true then xorL (rT x y i).1 (rT x y i).2 else (rT x y i).1, rS (rT x y i).2)
theorem rS_len (v : List UInt8) : (rS v).length = 16 := by unfold rS; split; rw [List.length_set, shL_len]; exact shL_len v
theorem rT_len (x y : List UInt8) (hy : y.length = 16) (i : Nat) : (rT x y i).1.length = 16 ∧ (rT x y i).2.length = 16 := by
  induction i with
  | zero => exact ⟨zs_len 16, hy⟩
  | succ i ih =>
    refine ⟨?_, rS_len _⟩
    show (if bR x i = true then _ else _ : List UInt8).length = 16
    split
    · exact xorL_len _ _ 16 ih.1 ih.2
    · exact ih.1
/-- From the end: places from j on are done. -/
def fin_ (j : Nat) (o l : List UInt8) : List UInt8 := l.take j ++ o.drop j
theorem fin_at (j : Nat) (o l : List UInt8) (k : Nat) (hk : k < j) (hl : j ≤ l.length) : (fin_ j o l)[k]? = l[k]? := by
  unfold fin_
  rw [List.getElem?_append_left (by rw [List.length_take]; omega), List.getElem?_take, if_pos hk]
theorem fin_set (j : Nat) (o l : List UInt8) (x : UInt8) (hx : o[j]? = some x) (hl : j < l.length) : (fin_ (j + 1) o l).set j x = fin_ j o l := by
  have hj := (List.getElem?_eq_some_iff.1 hx).1
  unfold fin_
  refine List.ext_getElem? fun q => ?_
  rw [List.getElem?_set]
  by_cases e : j = q
  · subst e
    rw [if_pos rfl, if_pos (by simp; omega), List.getElem?_append_right (by rw [List.length_take]; omega), List.getElem?_drop, List.length_take, Nat.min_eq_left (by omega), Nat.sub_self, Nat.add_zero, hx]
  · rw [if_neg e]
    rcases Nat.lt_or_ge q j with h | h
    · rw [List.getElem?_append_left (by rw [List.length_take]; omega), List.getElem?_append_left (by rw [List.length_take]; omega), List.getElem?_take, List.getElem?_take, if_pos (by omega), if_pos h]
    · rw [List.getElem?_append_right (by rw [List.length_take]; omega), List.getElem?_append_right (by rw [List.length_take]; omega), List.getElem?_drop, List.getElem?_drop, List.length_take, List.length_take, Nat.min_eq_left (by omega), Nat.min_eq_left (by omega)]
      congr 1; omega
theorem fin_all (o l : List UInt8) (h : l.length = o.length) : fin_ l.length o l = l := by
  unfold fin_
  rw [List.take_length, h, List.drop_length, List.append_nil]
theorem fin_zero (o l : List UInt8) : fin_ 0 o l = o := by simp [fin_]
set_option maxRecDepth 100000 in
set_option maxHeartbeats 4000000 in
theorem rgmul_any (A C : Option Addr) (ca cb : Nat) (x y : List UInt8) (w : World) (hx : Rd w A 16 ca x) (hy : Rd w C 16 cb y) :
    Calls Try.prog 76 #[.slice A 16 ca, .slice C 16 cb] w fun e w' => ∃ g c, e = .returned (.slice (some ⟨g, 0, none⟩) 16 c) ∧ Own w' w.heap.size (.slice (some ⟨g, 0, none⟩) 16 c) (rT x y 128).1 ∧ Below w.heap.size w w' := by
  have hxl : x.length = 16 := hx.1.symm
  have hyl : y.length = 16 := hy.1.symm
  have hca := hx.2.1
  have hcb := hy.2.1
  obtain ⟨bx, ox, rfl, hax⟩ := hx.addr (by omega)
  obtain ⟨X, hX⟩ : ∃ X, w.heap.size = X := ⟨_, rfl⟩
  have hmk := Try.prog_make 16 (by omega) w
  obtain ⟨w1, hw1⟩ : ∃ w1, w.alloc (.cells (madeCells #[.int .u8 0] 16) 5) = w1 := ⟨_, rfl⟩
  have hO1 : Own w1 X (.slice (some ⟨X, 0, none⟩) 16 16) (zs 16) := by rw [← hw1, ← hX]; exact Own.made w 16 (by unfold maxLen; omega)
  have hB1 : Below X w w1 := by rw [← hw1, ← hX]; exact (Below.refl _ _).alloc (Nat.le_refl _) _
  have hz1 : w1.heap.size = X + 1 := by rw [← hw1, ← hX]; simp
  rw [hw1, hX, show ((16 : Nat) : Int) = 16 from rfl] at hmk
  have hbX : bx < X := by rw [← hX]; exact hax.1
  have hy1 : Rd w1 C 16 cb y := hy.below (by rw [hX]; exact hB1)
  have HH := Lib.hid (And.intro hax (And.intro hxl (And.intro hyl (And.intro hO1 (And.intro hB1 (And.intro hy1 hz1))))))
  clear hax hx hy hxl hyl hO1 hB1 hy1 hw1 hz1
  rw [hX]
  go_enter Try.func76, Try.ntmps76
  go_wp2_with (at_builtin; go_must (refine wp_app2 (.const (.slice none 0 0)) (.tmp 11) (X + 1) (.slice none 0 0) [] (Own.nil _ _) (by have := HH.out.2.2.2.2.2.2; omega) C 16 cb y HH.out.2.2.2.2.2.1 (by have := HH.out.2.2.1; simp; omega) rfl rfl rfl rfl ?_); intro Av nv cv w2 hiv hG; have H2 := Lib.hid hG; clear hG)
  have hnv : nv = 16 := by have := H2.out.len; have := HH.out.2.2.1; simp at *; omega
  obtain ⟨gv, rfl⟩ : ∃ gv, Av = some ⟨gv, 0, none⟩ := by
    obtain ⟨g, c, e⟩ := H2.out.own.form (fun e => by injection e with _ e _; omega)
    cases e
    exact ⟨g, rfl⟩
  subst hnv
  have hgv := (H2.out.own.lt (g := gv) rfl).1
  have hcv := H2.out.own.blk.2.1
  have hOz2 := HH.out.2.2.2.1.keep (w' := w2) (fun g hg => by cases hg; exact H2.out.below.block X (by have := HH.out.2.2.2.2.2.2; omega))
  have hB2 := HH.out.2.2.2.2.1.trans (H2.out.below.mono (by omega))
  have hOv2 := H2.out.own
  rw [List.nil_append] at hOv2
  have H3 := Lib.hid (And.intro hOz2 (And.intro hB2 hOv2))
  clear hOz2 hB2 hOv2 H2 hmk
  go_loopw [5, 7] (fun zv iv wr => ∃ (i gz cz : Nat), i ≤ 128 ∧ zv = .slice (some ⟨gz, 0, none⟩) 16 cz ∧ iv = .int .i64 (i : Int) ∧ gz ≠ gv ∧ Own wr X (.slice (some ⟨gz, 0, none⟩) 16 cz) (rT x y i).1 ∧ Own wr (X + 1) (.slice (some ⟨gv, 0, none⟩) 16 cv) (rT x y i).2 ∧ Below X w wr) (fun _ iv _ => 128 - (intOf iv).toNat)
  case atStart => exact ⟨0, X, 16, by omega, rfl, rfl, by omega, H3.out.1, H3.out.2.2, H3.out.2.1⟩
  case round =>
    obtain ⟨i, gz, cz, hi, rfl, rfl, hne, hz, hv, hB⟩ := hrel
    clear H3
    by_cases hlt : i < 128
    · have hq : (i : Int) < 128 := by omega
      have hst : rT x y (i + 1) = (if bR x i = true then xorL (rT x y i).1 (rT x y i).2 else (rT x y i).1, rS (rT x y i).2) := rfl
      have hlen := rT_len x y HH.out.2.2.1 i
      generalize (rT x y i).1 = z at *
      generalize (rT x y i).2 = v at *
      obtain ⟨q, hq8⟩ : ∃ q, q = i / 8 := ⟨_, rfl⟩
      obtain ⟨s, hs8⟩ : ∃ s, s = 7 - i % 8 := ⟨_, rfl⟩
      obtain ⟨xb, hxb⟩ := at16 x HH.out.2.1 q (by omega)
      have y0 : wr.cell? ⟨bx, ox + q, none⟩ = some (B xb) := by rw [hB.cell (p := ⟨bx, ox + q, none⟩) hbX]; exact HH.out.1.2 q xb hxb
      have hbr : bR x i = isN ((xb >>> UInt8.ofNat s) &&& 1) 1 := by
        unfold bR
        rw [← hq8, ← hs8, List.getD_eq_getElem?_getD, hxb]; rfl
      have g0 : (i : Int).tdiv 8 = (q : Int) := by rw [Int.tdiv_eq_ediv_of_nonneg (by omega)]; omega
      have g0' : (i : Int) / 8 = (q : Int) := by omega
      obtain ⟨m, hm⟩ : ∃ m, m = i % 8 := ⟨_, rfl⟩
      have g1 : (i : Int).tmod 8 = (m : Int) := by rw [Int.tmod_eq_emod_of_nonneg (by omega)]; omega
      have g1' : (i : Int) % 8 = (m : Int) := by omega
      have g2 : IntKind.i64.wrap (7 - (m : Int)) = (s : Int) := by rw [IntWalk.i64_in _ (by omega)]; omega
      have g3 : s < 8 := by omega
      have g4 : (q : Int) < 16 := by omega
      have hcq : (q : Int) < ca := by omega
      have HR := Lib.hid (And.intro hst (And.intro hlen (And.intro hz (And.intro hv (And.intro hB (And.intro hbr hi))))))
      clear hst hlen hz hv hB hbr hi hxb hq8 hs8 hm
      go_upto_if 27 with fail
      generalize isN ((xb >>> UInt8.ofNat s) &&& 1) 1 = bb at *
      go_cut [5] from 13 to 71 (fun zv wx => ∃ gn cn, zv = .slice (some ⟨gn, 0, none⟩) 16 cn ∧ gn ≠ gv ∧ Own wx X (.slice (some ⟨gn, 0, none⟩) 16 cn) (if bR x i = true then xorL z v else z) ∧ Own wx (X + 1) (.slice (some ⟨gv, 0, none⟩) 16 cv) v ∧ Below X w wx)
      case first =>
        cases bb with
        | true =>
          have hbT : bR x i = true := HR.out.2.2.2.2.2.1
          have HbT := Lib.hid hbT
          clear hbT
          go_wp2_with (go_at_call 52; go_must (refine (rxor_any _ _ _ _ z v wr HR.out.2.2.1.rd HR.out.2.2.2.1.rd).mono ?_); rintro e w4 ⟨rfl, ho4, hb4⟩; have H4 := Lib.hid (And.intro ho4 hb4); clear ho4 hb4)
          go_meet
          case rel =>
            have hgl := (HR.out.2.2.2.1.lt (g := gv) rfl).2
            refine ⟨wr.heap.size, 16, rfl, by omega, ?_, ?_, ?_⟩
            · rw [if_pos HbT.out]; exact H4.out.1.mono (by rw [← hX]; exact HR.out.2.2.2.2.1.size)
            · exact HR.out.2.2.2.1.below H4.out.2
            · exact HR.out.2.2.2.2.1.trans (H4.out.2.mono (by rw [← hX]; exact HR.out.2.2.2.2.1.size))
        | false =>
          have hbF : ¬ bR x i = true := by rw [HR.out.2.2.2.2.2.1]; simp
          have HbF := Lib.hid hbF
          clear hbF
          go_wp2_with fail
          go_meet
          case rel => exact ⟨gz, cz, rfl, hne, by rw [if_neg HbF.out]; exact HR.out.2.2.1, HR.out.2.2.2.1, HR.out.2.2.2.2.1⟩
      case rest =>
        obtain ⟨gn, cn, rfl, hne2, hz2, hv2, hB2⟩ := hcut
        generalize hzz : (if bR x i = true then xorL z v else z) = z2 at *
        have hvl : v.length = 16 := HR.out.2.1.2
        obtain ⟨v15, hv15⟩ := at16 v hvl 15 (by omega)
        have y15 := hv2.cell 15 v15 hv15
        have HV := Lib.hid (And.intro hz2 (And.intro hv2 (And.intro hB2 (And.intro hv15 (And.intro hvl hzz)))))
        clear hz2 hv2 hB2 hv15 hvl hzz y0
        have hb15 : v.getD 15 0 = v15 := by rw [List.getD_eq_getElem?_getD, HV.out.2.2.2.1]; rfl
        have HB15 := Lib.hid hb15
        clear hb15
        go_upto_region 9 with fail
        clear y15
        generalize hT8 : isN (v15 &&& 1) 1 = t8 at *
        go_wp2_with fail
        go_loopw [9] (fun kv wz => ((∃ k : Nat, k < 16 ∧ kv = .int .i64 (k : Int) ∧ Own wz (X + 1) (.slice (some ⟨gv, 0, none⟩) 16 cv) (fin_ (k + 1) (shL v) v)) ∨ (kv = .int .i64 (-1) ∧ Own wz (X + 1) (.slice (some ⟨gv, 0, none⟩) 16 cv) (shL v))) ∧ Turn [gv] wc wz) (fun kv _ => (intOf kv + 1).toNat)
        case atStart =>
          refine ⟨.inl ⟨15, by omega, rfl, ?_⟩, Turn.refl _ _⟩
          have := fin_all (shL v) v (by rw [shL_len]; exact HV.out.2.2.2.2.1)
          rw [HV.out.2.2.2.2.1] at this
          rw [this]; exact HV.out.2.1
        case round =>
          obtain ⟨⟨k, hk, rfl, hO⟩ | ⟨rfl, hO⟩, hT⟩ := hrel
          · have hk0 : (0 : Int) ≤ k := by omega
            have hkq : (k : Int) < 16 := by omega
            obtain ⟨vk, hvk⟩ := at16 v HV.out.2.2.2.2.1 k hk
            have y0 := hO.cell k vk (by rw [fin_at _ _ _ _ (by omega) (by rw [HV.out.2.2.2.2.1]; omega)]; exact hvk)
            have y1 := hO.frozen k
            have hgk : v.getD k 0 = vk := by rw [List.getD_eq_getElem?_getD, hvk]; rfl
            have hvl := HV.out.2.2.2.2.1
            rcases k with _ | k
            · have hsh : shB v 0 = vk >>> 1 := by unfold shB; rw [if_neg (by omega), hgk]
              have HO := Lib.hid (And.intro hO (And.intro hT hsh))
              clear hO hT hsh hvk hgk hvl
              go_wp2_with fail
              have h1 := HO.out.1.set_ 0 (vk >>> 1) (by omega)
              rw [fin_set 0 (shL v) v _ (by rw [shL_at v 0 (by omega), HO.out.2.2]) (by rw [HV.out.2.2.2.2.1]; omega), fin_zero] at h1
              exact ⟨⟨.inr ⟨rfl, h1⟩, HO.out.2.1.setCell (p := ⟨gv, 0, none⟩) (.inl (by simp)) _⟩, by simp [intOf]⟩
            · obtain ⟨vj, hvj⟩ := at16 v hvl k (by omega)
              have y2 := hO.cell k vj (by rw [fin_at _ _ _ _ (by omega) (by rw [hvl]; omega)]; exact hvj)
              have hgj : v.getD k 0 = vj := by rw [List.getD_eq_getElem?_getD, hvj]; rfl
              have hk1 : (0 : Int) < (k : Int) + 1 := by omega
              have hk2 : ¬ k = k + 1 := by omega
              have hsh : shB v (k + 1) = if isN (vj &&& 1) 1 = true then (vk >>> 1) + 128 else vk >>> 1 := by
                unfold shB
                rw [Nat.add_sub_cancel, hgj, hgk]
                by_cases hb : isN (vj &&& 1) 1 = true
                · rw [if_pos ⟨by omega, hb⟩, if_pos hb]
                · rw [if_neg (fun h => hb h.2), if_neg hb]
              have HO := Lib.hid (And.intro hO (And.intro hT hsh))
              clear hO hT hsh hvk hgk hvj hgj hvl
              by_cases hb : isN (vj &&& 1) 1 = true
              · go_wp2_with fail
                have h1 := (HO.out.1.set_ (k + 1) (vk >>> 1) (by omega)).set_ (k + 1) (vk >>> 1 + 128) (by omega)
                rw [List.set_set, fin_set (k + 1) (shL v) v _ (by rw [shL_at v (k + 1) (by omega), HO.out.2.2, if_pos hb]) (by rw [HV.out.2.2.2.2.1]; omega)] at h1
                exact ⟨⟨.inl ⟨k, by omega, rfl, h1⟩, (HO.out.2.1.setCell (p := ⟨gv, k + 1, none⟩) (.inl (by simp)) _).setCell (p := ⟨gv, k + 1, none⟩) (.inl (by simp)) _⟩, by simp [intOf]; omega⟩
              · have hb' : isN (vj &&& 1) 1 = false := by simpa using hb
                go_wp2_with fail
                have h1 := HO.out.1.set_ (k + 1) (vk >>> 1) (by omega)
                rw [fin_set (k + 1) (shL v) v _ (by rw [shL_at v (k + 1) (by omega), HO.out.2.2, if_neg hb]) (by rw [HV.out.2.2.2.2.1]; omega)] at h1
                exact ⟨⟨.inl ⟨k, by omega, rfl, h1⟩, HO.out.2.1.setCell (p := ⟨gv, k + 1, none⟩) (.inl (by simp)) _⟩, by simp [intOf]; omega⟩
          · have hm1 : ¬ (0 : Int) ≤ -1 := by omega
            have hl0 := shL_at v 0 (by omega)
            have y0 := hO.cell 0 _ hl0
            have y1 := hO.frozen 0
            have HO := Lib.hid (And.intro hO hT)
            clear hO hT hl0
            cases t8 with
            | true =>
              go_wp2_with fail
              have hrs : rS v = (shL v).set 0 (shB v 0 ^^^ 225) := by unfold rS; rw [HB15.out, if_pos hT8]
              have hT9 : Turn [gv] wc (wr.setCell ⟨gv, 0, none⟩ (B (shB v 0 ^^^ 225))) := HO.out.2.setCell (p := ⟨gv, 0, none⟩) (.inl (by simp)) _
              have h1 := HO.out.1.set_ 0 (shB v 0 ^^^ 225) (by omega)
              go_roundw
              case rel =>
                refine ⟨i + 1, gn, cn, by omega, rfl, by go_num, hne2, ?_, ?_, below_turn HV.out.2.2.1 hT9 (by simp; omega) (by rw [← hX]; exact Nat.le_trans (Nat.le_refl _) (by have := HV.out.2.2.1.size; omega))⟩
                · rw [HR.out.1]; exact HV.out.1.turn hT9 (fun g hg hm => by cases hg; simp at hm; exact hne2 hm)
                · rw [HR.out.1, hrs]; exact h1
              case measure => simp [intOf]; omega
            | false =>
              go_wp2_with fail
              have hrs : rS v = shL v := by unfold rS; rw [HB15.out, if_neg (by rw [hT8]; simp)]
              go_roundw
              case rel =>
                refine ⟨i + 1, gn, cn, by omega, rfl, by go_num, hne2, ?_, ?_, below_turn HV.out.2.2.1 HO.out.2 (by simp; omega) (by rw [← hX]; have := HV.out.2.2.1.size; omega)⟩
                · rw [HR.out.1]; exact HV.out.1.turn HO.out.2 (fun g hg hm => by cases hg; simp at hm; exact hne2 hm)
                · rw [HR.out.1, hrs]; exact HO.out.1
              case measure => simp [intOf]; omega
    · obtain rfl : i = 128 := by omega
      have hq : ¬ ((128 : Int) < 128) := by omega
      have HS := Lib.hid (And.intro hz hB)
      clear hz hv hB hi hlt
      go_wp2_with fail
      go_ret
      exact ⟨gz, cz, rfl, HS.out.1, HS.out.2⟩
end Go.Proofs.Ytiocmebcbhbcmaa
