/-
  Decrypt.
-/
import Derived.Test.YtgjnmpjimhbfgaaGreatDoorZzMo1
import Derived.Laws.Cover3
import Derived.Deep.DeepCutAuto
import Derived.Deep.CutBlock
import Derived.Test.YtgjnmpjimhbfgaaGreatDoorZzEqB
import Derived.StillTailTactics
namespace Go.Proofs.YtgjnmpjimhbfgaaGreatDoor
set_option maxRecDepth 100000
open Go.RowKit
def Z16 : Array Value := #[.int .u8 0, .int .u8 0, .int .u8 0, .int .u8 0, .int .u8 0, .int .u8 0, .int .u8 0, .int .u8 0, .int .u8 0, .int .u8 0, .int .u8 0, .int .u8 0, .int .u8 0, .int .u8 0, .int .u8 0, .int .u8 0]
theorem z16_map : Z16 = ((zs 16).map B).toArray := rfl
theorem st_new (w : World) : St (w.alloc (.cells Z16 153)) w.heap.size (zs 16) := ⟨rfl, by rw [z16_map]; exact Blk.new _ _ _⟩
theorem Cip.below {W W' : World} {b0 c : Nat} {ks : List UInt8} {K R cp : Nat} (h : Cip W b0 c ks K R cp) (hb : Below W.heap.size W W') : Cip W' b0 c ks K R cp := by
 obtain ⟨h1, h2, h3, h4, h5, h6, h7, h8, h9, h10, h11⟩ := h
 refine ⟨⟨h1.1, h1.2.1, h1.2.2.below hb⟩, h2, h3, Nat.lt_of_lt_of_le h4 hb.size, h5, h6, h7, h8, h9, h10, fun j x hx => ?_⟩
 rw [hb.cell (p := ⟨K, j, none⟩) h4]; exact h11 j x hx
def key (ks : List UInt8) (i : Nat) : List UInt8 := (ks.drop (16 * i)).take 16
theorem key_len (ks : List UInt8) (R i : Nat) (h : ks.length = 16 * R) (hi : i < R) : (key ks i).length = 16 := by unfold key; rw [List.length_take, List.length_drop]; omega
theorem Cip.rd {W : World} {b0 c : Nat} {ks : List UInt8} {K R cp : Nat} (h : Cip W b0 c ks K R cp) (i : Nat) (hi : i < R) : Rd W (some ⟨K, i * 16, none⟩) 16 16 (key ks i) := by
 rw [Nat.mul_comm]
 obtain ⟨h1, h2, h3, h4, h5, h6, h7, h8, h9, h10, h11⟩ := h
 refine ⟨(key_len ks R i h6 hi).symm, Nat.le_refl _, by unfold maxLen; omega, .inr ⟨K, 16 * i, rfl, h4, fun k x hx => h11 _ _ ?_⟩⟩
 unfold key at hx
 rw [List.getElem?_take] at hx
 split at hx
 ·rwa [List.getElem?_drop] at hx
 ·cases hx
def shp (j : Nat) : Nat := (j + j % 4 * 4) % 16
def decN (l : List UInt8) : Nat → List UInt8
 | 0 => zs 16
 | j + 1 => (decN l j).set (shp j) (si (l.getD j 0))
theorem decN_len (l : List UInt8) (j : Nat) : (decN l j).length = 16 := by
 induction j with
 | zero => rfl
 | succ j ih => unfold decN; rw [List.length_set]; exact ih
def decM (R i : Nat) (s : List UInt8) : List UInt8 := if i < R - 1 then mixN s [14, 11, 13, 9] 4 else s
def decF (ks : List UInt8) (R : Nat) : Nat → List UInt8 → List UInt8
 | 0, s => xorL s (key ks 0)
 | i + 1, s => decF ks R i (decN (decM R (i + 1) (xorL s (key ks (i + 1)))) 16)
def decL (ks : List UInt8) (R : Nat) (l : List UInt8) : List UInt8 := decF ks R (R - 1) l
theorem list16 (l : List UInt8) (h : l.length = 16) : ∃ x0 x1 x2 x3 x4 x5 x6 x7 x8 x9 x10 x11 x12 x13 x14 x15 : UInt8, l = [x0, x1, x2, x3, x4, x5, x6, x7, x8, x9, x10, x11, x12, x13, x14, x15] := by
 match l, h with
 | [x0, x1, x2, x3, x4, x5, x6, x7, x8, x9, x10, x11, x12, x13, x14, x15], _ => exact ⟨x0, x1, x2, x3, x4, x5, x6, x7, x8, x9, x10, x11, x12, x13, x14, x15, rfl⟩
set_option maxRecDepth 100000 in
set_option maxHeartbeats 4000000 in
theorem dec_any (b0 c : Nat) (ks : List UInt8) (K R cp : Nat) (A : Option Addr) (cb : Nat) (l : List UInt8) (w : World) (h : Cip w b0 c ks K R cp) (hr : Rd w A 16 cb l) :
  Calls Tryz.prog 144 #[.pointer (some ⟨c, 0, none⟩), .slice A 16 cb] w fun e w' => ∃ sb : Nat, e = .returned (.slice (some ⟨sb, 0, none⟩) 16 16) ∧ w.heap.size ≤ sb ∧ St w' sb (decL ks R l) ∧ Below w.heap.size w w' := by
 have hl : l.length = 16 := hr.1.symm
 obtain ⟨bb, off, rfl, ha⟩ := hr.addr (by omega)
 have hR1 : 11 ≤ R := h.2.2.2.2.2.2.1
 have hR2 : R ≤ 15 := h.2.2.2.2.2.2.2.1
 have hR2' : (R : Int) ≤ 15 := by omega
 have hR1' : (11 : Int) ≤ R := by omega
 have c0 : w.cell? ⟨c, 0, none⟩ = some (.slice (some ⟨K, 0, none⟩) R cp) := by rw [h.1.2.2.cell 0]; rfl
 have hclt := h.1.2.2.lt
 obtain ⟨x0, x1, x2, x3, x4, x5, x6, x7, x8, x9, x10, x11, x12, x13, x14, x15, hl16⟩ := list16 l hl
 have hrng : w.rangeAt bb off [B x0, B x1, B x2, B x3, B x4, B x5, B x6, B x7, B x8, B x9, B x10, B x11, B x12, B x13, B x14, B x15] := fun j v hv => by
  have hv' : (l.map B)[j]? = some v := by rw [hl16]; exact hv
  rw [List.getElem?_map] at hv'
  obtain ⟨x, hx, rfl⟩ := Option.map_eq_some_iff.1 hv'
  exact ha.2 j x hx
 have hcb : 16 ≤ cb := hr.2.1
 have hat : ∀ w, (Instr.arrayAt 153 (.slice (some ⟨bb, off, none⟩) 16 cb)).run Tryz.prog w = .ok (.pointer (some ⟨bb, off, none⟩)) w := fun w => run_arrayAt w 153 _ 16 _ 16 _ Tryz.underlying153 (by decide)
 have hSt : St (w.alloc (.cells #[B x0, B x1, B x2, B x3, B x4, B x5, B x6, B x7, B x8, B x9, B x10, B x11, B x12, B x13, B x14, B x15] 153)) w.heap.size l := by rw [hl16]; exact ⟨rfl, Blk.new _ _ _⟩
 have hb1 : Below w.heap.size w (w.alloc (.cells #[B x0, B x1, B x2, B x3, B x4, B x5, B x6, B x7, B x8, B x9, B x10, B x11, B x12, B x13, B x14, B x15] 153)) := (Below.refl _ _).alloc (Nat.le_refl _) _
 have HH := Lib.hid (And.intro h (And.intro hrng (And.intro hl (And.intro hSt hb1))))
 clear h hrng hr ha hl hl16 hSt hb1
 go_enter Tryz.func144, Tryz.ntmps144
 go_wp2_with (refine wpList_load_mid rfl 153 (.tmp 17) rfl bb off rfl [B x0, B x1, B x2, B x3, B x4, B x5, B x6, B x7, B x8, B x9, B x10, B x11, B x12, B x13, B x14, B x15] _ HH.out.2.1 Tryz.underlying153 rfl rfl ?_)
 go_loopw [6] (fun iv wr => ∃ (i : Nat) (s : List UInt8), i < R ∧ iv = .int .i64 (i : Int) ∧ St wr w.heap.size s ∧ decF ks R i s = decL ks R l ∧ Below w.heap.size w wr) (fun iv _ => (intOf iv).toNat)
 case atStart => exact ⟨R - 1, l, by omega, by go_num, HH.out.2.2.2.1, rfl, HH.out.2.2.2.2⟩
 case round =>
  obtain ⟨i, s, hi, rfl, hS, hD, hB⟩ := hrel
  have hC := HH.out.1.below hB
  have q1 : (0 : Int) ≤ i := by omega
  have q2 : (i : Int) < R := by omega
  have q3 : w.heap.size < wr.heap.size := hS.lt
  have z0 : wr.cell? ⟨c, 0, none⟩ = some (.slice (some ⟨K, 0, none⟩) R cp) := by rw [hC.1.2.2.cell 0]; rfl
  have hcr : c < wr.heap.size := hC.1.2.2.lt
  have hKne : K ≠ w.heap.size := by have := HH.out.1.2.2.2.1; omega
  have hKr := hC.rd i hi
  have HA := Lib.hid (add_any w.heap.size s (some ⟨K, i * 16, none⟩) 16 (key ks i) wr hS hKr (fun ad h => by cases h; exact hKne))
  have HR := Lib.hid (And.intro hC (And.intro hD (And.intro hB hi)))
  have hxl : (xorL s (key ks i)).length = 16 := xorL_len _ _ 16 hS.1 hKr.1.symm
  clear hC hD hB hKr hi hS
  have hst : ∀ w2 w3, Turn [w.heap.size] wr w2 → Turn [w.heap.size] w2 w3 → Turn [w.heap.size] wr w3 ∧ w3.cell? ⟨c, 0, none⟩ = some (.slice (some ⟨K, 0, none⟩) R cp) ∧ c < w3.heap.size := fun w2 w3 h2 h3 => by
   have ht := h2.trans h3 (fun x hx => .inl hx)
   refine ⟨ht, ?_, Nat.lt_of_lt_of_le hcr ht.size⟩
   rw [World.cell?_of_block (a := ⟨c, 0, none⟩) (ht.block c hcr (by simp; omega))]; exact z0
  have HSt := Lib.hid hst
  clear hst
  have z5 : (0 : Int) ≤ R := by omega
  go_upto_if 38 with (go_at_call 143; go_must (refine HA.out.mono ?_); rintro e w2 ⟨rfl, hS2, hT2⟩; obtain ⟨hT2', z2, hc2⟩ := HSt.out _ _ (Turn.refl _ _) hT2; have H2 := Lib.hid (And.intro hS2 hT2); clear hS2 hT2 hT2')
  by_cases h0 : i = 0
  ·have h0' : ((i : Int) == 0) = true := by simp; omega
   go_wp2_with fail
   go_ret
   refine ⟨w.heap.size, rfl, Nat.le_refl _, ?_, below_turn HR.out.2.2.1 H2.out.2 (by simp) HR.out.2.2.1.size⟩
   have hd := HR.out.2.1
   have hs2 := H2.out.1
   subst h0
   rw [← hd]; exact hs2
  ·have h0' : ((i : Int) == 0) = false := by simp; omega
   obtain ⟨i', rfl⟩ : ∃ i', i = i' + 1 := ⟨i - 1, by omega⟩
   have q4 : IntKind.i64.wrap ((R : Int) - 1) = (R : Int) - 1 := IntWalk.i64_in _ (by omega)
   generalize hs1 : xorL s (key ks (i' + 1)) = s1 at *
   go_upto_if 46 with fail
   go_cut [6] from 25 to 68 (fun v wx => v = .int .i64 ((i' : Int) + 1) ∧ St wx w.heap.size (decM R (i' + 1) s1) ∧ Turn [w.heap.size] wr wx)
   case first =>
    by_cases hm : i' + 1 < R - 1
    ·have hm' : decide (((i' + 1 : Nat) : Int) < (R : Int) - 1) = true := decide_eq_true (by omega)
     have hm2 : (i' : Int) + 1 < (R : Int) - 1 := by omega
     have hMix : Calls Tryz.prog 142 #[.pointer (some ⟨w.heap.size, 0, none⟩), .agg #[.int .u8 14, .int .u8 11, .int .u8 13, .int .u8 9]] w2 fun e w' => e = .returned (.tuple #[]) ∧ St w' w.heap.size (mixN s1 [14, 11, 13, 9] 4) ∧ Turn [w.heap.size] w2 w' := mix_any w.heap.size s1 14 11 13 9 w2 H2.out.1
     have HM := Lib.hid hMix
     have hdm : decM R (i' + 1) s1 = mixN s1 [14, 11, 13, 9] 4 := by unfold decM; rw [if_pos hm]
     have HDM := Lib.hid hdm
     clear hMix hdm
     go_wp2_with (go_at_call 142; go_must (refine HM.out.mono ?_); rintro e w3 ⟨rfl, hS3, hT3⟩; have H3 := Lib.hid (And.intro hS3 hT3); clear hS3 hT3)
     go_meet
     case rel => exact ⟨by go_num, by rw [HDM.out]; exact H3.out.1, H2.out.2.trans H3.out.2 (fun x hx => .inl hx)⟩
    ·have hm' : decide (((i' + 1 : Nat) : Int) < (R : Int) - 1) = false := decide_eq_false (by omega)
     have hm2 : ¬ ((i' : Int) + 1 < (R : Int) - 1) := by omega
     have hdm : decM R (i' + 1) s1 = s1 := by unfold decM; rw [if_neg hm]
     have HDM := Lib.hid hdm
     clear hdm
     go_wp2_with fail
     go_meet
     case rel => exact ⟨by go_num, by rw [HDM.out]; exact H2.out.1, H2.out.2⟩
   case rest =>
    obtain ⟨rfl, hS3, hT3⟩ := hcut
    generalize hs2 : decM R (i' + 1) s1 = s2 at *
    have hs3 := hS3.1
    have hB3 := below_turn HR.out.2.2.1 hT3 (by simp) HR.out.2.2.1.size
    have hC3 := HH.out.1.below hB3
    have n1 : w.heap.size ≠ wc.heap.size := by have := hS3.lt; omega
    have n2 : c ≠ wc.heap.size := by have := hC3.1.2.2.lt; omega
    have hwc : w.heap.size ≤ wc.heap.size := hB3.size
    have hZ := st_new wc
    have hS3a := hS3.alloc_ (.cells Z16 153)
    have hC3a : CAt (wc.alloc (.cells Z16 153)) c _ boxL invL := ⟨hC3.1.1, hC3.1.2.1, hC3.1.2.2.alloc _⟩
    have hB3a : Below w.heap.size w (wc.alloc (.cells Z16 153)) := hB3.alloc hB3.size _
    have HZ := Lib.hid (And.intro hZ (And.intro hS3a (And.intro hC3a (And.intro hB3a hs3))))
    clear hZ hS3a hC3a hB3a hs3 hB3 hC3 hS3 hT3 H2 z0 z2 hc2 HA HSt
    unfold Z16 at HZ
    go_wp2_with fail
    generalize wc.alloc (.cells #[.int .u8 0, .int .u8 0, .int .u8 0, .int .u8 0, .int .u8 0, .int .u8 0, .int .u8 0, .int .u8 0, .int .u8 0, .int .u8 0, .int .u8 0, .int .u8 0, .int .u8 0, .int .u8 0, .int .u8 0, .int .u8 0] 153) = wd at *
    generalize wc.heap.size = tb at *
    go_loopw [49] (fun jv wz => ∃ j : Nat, j ≤ 16 ∧ jv = .int .i64 (j : Int) ∧ St wz tb (decN s2 j) ∧ Turn [tb] wd wz) (fun jv _ => 16 - (intOf jv).toNat)
    case atStart => exact ⟨0, by omega, rfl, HZ.out.1, Turn.refl _ _⟩
    case round =>
     obtain ⟨j, hj, rfl, hA, hT⟩ := hrel
     by_cases hlt : j < 16
     ·have hq : (j : Int) < 16 := by omega
      obtain ⟨x, hx⟩ := at16 s2 HZ.out.2.2.2.2 j hlt
      have hS := HZ.out.2.1.turn hT (by simp; exact n1)
      have y2 := hS.cell j x hx
      have hC : CAt wr c _ boxL invL := ⟨HZ.out.2.2.1.1, HZ.out.2.2.1.2.1, HZ.out.2.2.1.2.2.turn hT (by simp; exact n2)⟩
      have y3 := hC.invCell _ _ (inv_at x)
      have e3 : (x.toNat : Int) < 256 := by have := x.toNat_lt; omega
      obtain ⟨p, hp⟩ : ∃ p, p = shp j := ⟨_, rfl⟩
      have hp' : p = (j + j % 4 * 4) % 16 := hp
      have hp16 : p < 16 := by omega
      obtain ⟨m, hm⟩ : ∃ m, m = j % 4 := ⟨_, rfl⟩
      have g0 : (j : Int).tmod 4 = (m : Int) := by rw [Int.tmod_eq_emod_of_nonneg (by omega)]; omega
      have g1 : IntKind.i64.wrap ((m : Int) * 4) = (m : Int) * 4 := IntWalk.i64_in _ (by omega)
      have g2 : IntKind.i64.wrap ((j : Int) + (m : Int) * 4) = (j : Int) + (m : Int) * 4 := IntWalk.i64_in _ (by omega)
      have g6 : ((j : Int) + (m : Int) * 4).tmod 16 = (p : Int) := by rw [Int.tmod_eq_emod_of_nonneg (by omega)]; omega
      have g4 : (p : Int) < 16 := by omega
      obtain ⟨y, hy⟩ := at16 (decN s2 j) hA.1 p hp16
      have y0 := hA.cell p y hy
      have y1 := hA.frozen p
      have hnew : decN s2 (j + 1) = (decN s2 j).set p (si x) := by
       show (decN s2 j).set (shp j) (si (s2.getD j 0)) = _
       rw [← hp, List.getD_eq_getElem?_getD, hx]; rfl
      have HB := Lib.hid (And.intro hA (And.intro hT hnew))
      clear hA hT hnew hS hC hx hp hp' hy hm
      go_wp2_with fail
      go_still_tail 15, (by kernel_rfl)
      go_wp2_with fail
      have h1 := HB.out.1.set_ p (si x)
      go_roundw
      case rel => exact ⟨j + 1, by omega, by go_num, by rw [HB.out.2.2]; exact h1.drew, (HB.out.2.1.setCell (p := ⟨tb, p, none⟩) (.inl (by simp)) _).drew⟩
      case measure => simp [intOf]; omega
     ·obtain rfl : j = 16 := by omega
      have hq : ¬ ((16 : Int) < 16) := by omega
      have hS := HZ.out.2.1.turn hT (by simp; exact n1)
      have hB := below_turn HZ.out.2.2.2.1 hT (by simp; exact hwc) HZ.out.2.2.2.1.size
      have hdl := decN_len s2 16
      have hd := HR.out.2.1
      have hd2 : decF ks R (i' + 1) s = decF ks R i' (decN s2 16) := by
       show decF ks R i' (decN (decM R (i' + 1) (xorL s (key ks (i' + 1)))) 16) = _
       rw [hs1, hs2]
      have HX := Lib.hid (And.intro hA (And.intro hS (And.intro hB (And.intro hdl (hd2.symm.trans hd)))))
      clear hA hT hS hB hdl hd hd2 hj hlt
      generalize decN s2 16 = s3 at *
      go_wp2_with (first | (refine wpList_load_arr rfl 153 (.tmp 7) rfl tb 153 _ HX.out.1.2 rfl _ Tryz.underlying153 rfl (by rw [show (s3.map B).toArray.size = 16 by simp [HX.out.2.2.2.1]]; rfl) ?_) | (refine wpList_store_arr rfl 153 (.tmp 5) _ rfl w.heap.size 153 _ (s3.map B) HX.out.2.1.2 rfl rfl (by rw [List.length_map, HX.out.2.2.2.1]; rfl) (by simp [HX.out.2.2.2.1, HX.out.2.1.1]) (by rw [List.all_eq_true]; exact map_one s3) ?_; intro w5 hB5 hT5; have H5 := Lib.hid (And.intro hB5 hT5); clear hB5 hT5))
      have hS5 : St w5 w.heap.size s3 := ⟨HX.out.2.2.2.1, H5.out.1⟩
      exact ⟨⟨i', s3, by have := HR.out.2.2.2; omega, rfl, hS5, HX.out.2.2.2.2, below_turn HX.out.2.2.1 H5.out.2 (by simp) HX.out.2.2.1.size⟩, by first | (simp [intOf]; done) | (simp [intOf]; omega)⟩
def zL : List UInt8 := List.replicate 256 0
def zC : Array Value := cCells (.slice none 0 0) zL zL
theorem built_zC : Tryz.prog.built 151 [] = some zC := by kernel_rfl
theorem zC_at (w : World) (c : Nat) (h : Blk w c 151 zC) : CAt w c (.slice none 0 0) zL zL := ⟨List.length_replicate, List.length_replicate, h⟩
set_option maxRecDepth 100000 in
set_option maxHeartbeats 4000000 in
theorem new_any_q (A : Option Addr) (n0 cp : Nat) (l : List UInt8) (w : World) (h : Rd w A n0 cp l) (hl : l.length = 16 ∨ l.length = 24 ∨ l.length = 32) :
  Calls Tryz.prog 93 #[.slice A n0 cp] w fun e w' => ∃ c K R cq : Nat, e = .returned (.pointer (some ⟨c, 0, none⟩)) ∧ Cip w' w.heap.size c (rks l) K R cq ∧ Below w.heap.size w w' := by
 have hn0 := h.1
 have HR := Lib.hid h
 clear h
 subst hn0
 generalize hL : l.length = n0 at *
 obtain ⟨n, hn⟩ : ∃ n, n = n0 / 4 := ⟨_, rfl⟩
 have hnn : n0 = 4 * n := by omega
 have hn8 : n = 4 ∨ n = 6 ∨ n = 8 := by omega
 have hdiv : ((n0 : Int) / 4) = (n : Int) := by omega
 have HN := Lib.hid (And.intro hl (And.intro hn (And.intro hnn hn8)))
 have hle : n ≤ 8 := by omega
 have hge : 4 ≤ n := by omega
 have hle' : (n : Int) ≤ 8 := by omega
 have hge' : (4 : Int) ≤ n := by omega
 clear hl hn hnn hn8
 have HB := Lib.hid built_zC
 have hIn : ∀ w1, Turn [w.heap.size] (w.alloc (.cells zC 151)) w1 → Below w.heap.size w w1 := fun w1 hT => below_turn ((Below.refl _ _).alloc (Nat.le_refl _) _) hT (by simp) (by simp)
 have HIn := Lib.hid hIn
 clear hIn
 go_enter Tryz.func93, Tryz.ntmps93
 go_upto_region 2 with (fail)
 go_cut [27] (fun v wx => v = .bool false ∧ w = wx)
 case first =>
  rcases HN.out.1 with h | h | h
  ·have h1 : (n0 : Int) = 16 := by omega
   go_wp2
   go_meet
   case rel => exact ⟨rfl, rfl⟩
  ·have h1 : (n0 : Int) = 24 := by omega
   go_wp2
   go_meet
   case rel => exact ⟨rfl, rfl⟩
  ·have h1 : (n0 : Int) = 32 := by omega
   go_wp2
   go_meet
   case rel => exact ⟨rfl, rfl⟩
 obtain ⟨rfl, rfl⟩ := hcut
 go_wp2_with (first | (refine wpList_build_at rfl 151 #[] rfl zC (by rw [Array.map_empty]; exact HB.out) ?_) | (go_at_call 106; refine (tables_any _ _ _ _ _ (zC_at _ _ (Blk.new _ _ _))).mono ?_; rintro e w1 ⟨rfl, hC, hT⟩; have H1 := Lib.hid (And.intro hC (And.intro hT (HIn.out w1 hT))); clear hC hT HIn) | (at_builtin; go_must (refine wp_app2 (.const (.slice none 0 0)) (.tmp 32) (w.heap.size + 1) (.slice none 0 0) [] (Own.nil _ _) (by have := H1.out.2.1.size; simpa using this) A n0 cp l (HR.out.below H1.out.2.2) (by have := HR.out.2.2.1; unfold maxLen at this; simp; omega) rfl rfl rfl rfl ?_); intro A1 n1 c1 w2 hi1 hG; have H2 := Lib.hid hG; clear hG))
 go_loopw [5, 6, 7] (fun sv rv iv wr => ∃ (m : Nat) (A' : Option Addr) (n' c' : Nat), m ≤ 3 * n + 28 ∧ sv = .slice A' n' c' ∧ rv = B (kW n l m).2 ∧ iv = .int .i64 ((n + m : Nat) : Int) ∧ Own wr (w.heap.size + 1) (.slice A' n' c') (kW n l m).1 ∧ CAt wr w.heap.size (.slice none 0 0) boxL invL ∧ Below w.heap.size w wr) (fun _ _ iv _ => 4 * n + 28 - (intOf iv).toNat)
 case atStart =>
  refine ⟨0, A1, n1, c1, by omega, rfl, rfl, rfl, H2.out.own, ?_, ?_⟩
  ·exact ⟨H1.out.1.1, H1.out.1.2.1, H1.out.1.2.2.keep (H2.out.below.block _ (by omega))⟩
  ·exact H1.out.2.2.trans (H2.out.below.mono (by omega))
 case round =>
  obtain ⟨m, A', n', c', hm, rfl, rfl, rfl, hO, hC, hB⟩ := hrel
  have hWl := kW_len n l (by omega) (by have := HN.out.2.2.1; omega) m
  by_cases hlt : m < 3 * n + 28
  ·have hm1 : ((kW n l (m + 1)).1, (kW n l (m + 1)).2) = ((kW n l m).1 ++ kAdd n (n + m) (kW n l m).2 (kW n l m).1, kRc n (n + m) (kW n l m).2) := rfl
   have HM1 := Lib.hid hm1
   clear hm1
   generalize hg1 : (kW n l (m + 1)).1 = W1 at *
   generalize hg2 : (kW n l (m + 1)).2 = rc1 at *
   have HG := Lib.hid (And.intro hg1 hg2)
   clear hg1 hg2
   generalize (kW n l m).1 = W at *
   generalize (kW n l m).2 = rc at *
   obtain ⟨i, hi⟩ : ∃ i, i = n + m := ⟨_, rfl⟩
   rw [← hi] at HM1 hWl ⊢
   have HI := Lib.hid (And.intro hi (And.intro hm hlt))
   have q1 : (i : Int) < 4 * ((n : Int) + 7) := by omega
   have q2 : (i : Int) < 60 := by omega
   have q3 : (4 : Int) ≤ i := by omega
   have q4 : (n : Int) ≤ i := by omega
   have q5 : i < 60 := by omega
   have q6 : 4 ≤ i := by omega
   clear hi hm hlt
   obtain ⟨g, rfl⟩ : ∃ g, A' = some ⟨g, 0, none⟩ := by
    obtain ⟨g, c, e⟩ := hO.form (fun e => by injection e with _ e _; have := hO.len; omega)
    cases e
    exact ⟨g, rfl⟩
   have hn4 : n' = 4 * i := by have := hO.len; omega
   subst hn4
   have hcap := hO.blk.2.1
   have hcapm := hO.blk.2.2.1
   unfold maxLen at hcapm
   have q7 : (4 : Int) * i ≤ c' := by omega
   have q8 : 4 * i - (4 * i - 4) = 4 := by omega
   have hd : ∀ j, 4 * i - 4 + j < 4 * i → W[4 * i - 4 + j]? = some (W.getD (4 * i - 4 + j) 0) := fun j hj => by
    rw [List.getD_eq_getElem?_getD, List.getElem?_eq_getElem (by omega)]; rfl
   have d0 := hd 0 (by omega)
   have d1 := hd 1 (by omega)
   have d2 := hd 2 (by omega)
   have d3 := hd 3 (by omega)
   clear hd
   have hat : ∀ w, (Instr.arrayAt 152 (.slice (some ⟨g, 4 * i - 4, none⟩) 4 (c' - (4 * i - 4)))).run Tryz.prog w = .ok (.pointer (some ⟨g, 4 * i - 4, none⟩)) w := fun w => run_arrayAt w 152 _ 4 _ 4 _ Tryz.underlying152 (by decide)
   have hti : kAdd n i rc W = List.zipWith (· ^^^ ·) ((W.drop (4 * (i - n))).take 4) (kT n i rc (W.getD (4 * i - 4 + 0) 0) (W.getD (4 * i - 4 + 1) 0) (W.getD (4 * i - 4 + 2) 0) (W.getD (4 * i - 4 + 3) 0)) := by
    unfold kAdd
    rw [show 4 * i - 4 + 0 = 4 * i - 4 by omega, show 4 * i - 4 + 1 = 4 * i - 3 by omega, show 4 * i - 4 + 2 = 4 * i - 2 by omega, show 4 * i - 4 + 3 = 4 * i - 1 by omega]
   generalize W.getD (4 * i - 4 + 0) 0 = t0 at *
   generalize W.getD (4 * i - 4 + 1) 0 = t1 at *
   generalize W.getD (4 * i - 4 + 2) 0 = t2 at *
   generalize W.getD (4 * i - 4 + 3) 0 = t3 at *
   have hrng : wr.rangeAt g (4 * i - 4) [B t0, B t1, B t2, B t3] := fun j v hv => by
    rcases j with _ | _ | _ | _ | j
    ·cases hv; exact hO.cell _ _ d0
    ·cases hv; exact hO.cell _ _ d1
    ·cases hv; exact hO.cell _ _ d2
    ·cases hv; exact hO.cell _ _ d3
    ·cases hv
   have HTi := Lib.hid hti
   have HRg := Lib.hid hrng
   have HW := Lib.hid (And.intro hO (And.intro hC (And.intro hB hWl)))
   clear hO hC hB hWl hti hrng d0 d1 d2 d3
   have q9 : (n : Int) ≠ 0 := by omega
   go_upto_block 2 with (refine wpList_load_mid rfl 152 (.tmp 49) rfl g (4 * i - 4) rfl [B t0, B t1, B t2, B t3] _ HRg.out Tryz.underlying152 rfl (by kernel_rfl) ?_)
   have hBt : Blk (wr.alloc (.cells #[B t0, B t1, B t2, B t3] 152)) wr.heap.size 152 #[B t0, B t1, B t2, B t3] := Blk.new _ _ _
   generalize hwq : wr.alloc (.cells #[B t0, B t1, B t2, B t3] 152) = wq at *
   go_cut [6] from 35 to 146 (fun rv wx => rv = B rc1 ∧ Blk wx wr.heap.size 152 ((kT n i rc t0 t1 t2 t3).map B).toArray ∧ Turn [wr.heap.size] wq wx)
   case first =>
    have hCq : CAt wq w.heap.size (.slice none 0 0) boxL invL := by rw [← hwq]; exact ⟨HW.out.2.1.1, HW.out.2.1.2.1, HW.out.2.1.2.2.alloc _⟩
    have hr1 : rc1 = kRc n i rc := congrArg Prod.snd HM1.out
    have b0 := hBt.cell 0
    have b1 := hBt.cell 1
    have b2 := hBt.cell 2
    have b3 := hBt.cell 3
    simp at b0 b1 b2 b3
    have x0 := hCq.boxCell _ _ (box_at t0)
    have x1 := hCq.boxCell _ _ (box_at t1)
    have x2 := hCq.boxCell _ _ (box_at t2)
    have x3 := hCq.boxCell _ _ (box_at t3)
    have e0 : (t0.toNat : Int) < 256 := by have := t0.toNat_lt; omega
    have e1 : (t1.toNat : Int) < 256 := by have := t1.toNat_lt; omega
    have e2 : (t2.toNat : Int) < 256 := by have := t2.toNat_lt; omega
    have e3 : (t3.toNat : Int) < 256 := by have := t3.toNat_lt; omega
    have HT1 := Lib.hid hBt.drew
    have HB1 := Lib.hid hBt
    have Hr1 := Lib.hid hr1
    have Hwq := Lib.hid hwq
    clear hBt hCq hr1 hwq
    by_cases hr : i % n = 0
    ·have r1 : (i : Int) % n = 0 := by rw [← Int.natCast_emod, hr]; rfl
     have r2 : Int.tmod (i : Int) n = 0 := by rw [Int.tmod_eq_emod_of_nonneg (by omega)]; exact r1
     have hk : kT n i rc t0 t1 t2 t3 = [sb t1 ^^^ rc, sb t2, sb t3, sb t0] := by unfold kT; rw [if_pos hr]
     have hk2 : kRc n i rc = tw rc := by unfold kRc; rw [if_pos hr]
     have HK := Lib.hid (And.intro hk hk2)
     clear hk hk2
     go_wp2_with fail
     go_still_tail 31, (by kernel_rfl)
     go_wp2_with (first | (go_at_call 107; refine (twice_any _ _).mono ?_; rintro e wx ⟨rfl, rfl⟩) | (refine wpList_store_arr rfl 152 (.tmp 8) _ rfl wr.heap.size 152 _ [B (sb t1 ^^^ rc), B (sb t2), B (sb t3), B (sb t0)] HT1.out rfl rfl (by kernel_rfl) rfl rfl ?_; intro wy hBy hTy; have HY := Lib.hid (And.intro hBy hTy); clear hBy hTy))
     go_meet
     case rel => exact ⟨by rw [Hr1.out, HK.out.2], by rw [HK.out.1]; exact HY.out.1, ((Turn.refl _ wq).drew).trans HY.out.2 (fun x hx => .inl hx)⟩
    ·have r1 : ¬ ((i : Int) % n = 0) := by rw [← Int.natCast_emod]; omega
     have r1' : ((i : Int) % n == 0) = false := by simp only [beq_eq_false_iff_ne, ne_eq]; exact r1
     have hk2 : kRc n i rc = rc := by unfold kRc; rw [if_neg hr]
     by_cases h6 : 6 < n
     ·have r6 : (6 : Int) < n := by omega
      have r6' : decide ((6 : Int) < n) = true := decide_eq_true r6
      by_cases h4 : i % n = 4
      ·have r4 : (i : Int) % n = 4 := by rw [← Int.natCast_emod, h4]; rfl
       have hk : kT n i rc t0 t1 t2 t3 = [sb t0, sb t1, sb t2, sb t3] := by unfold kT; rw [if_neg hr, if_pos ⟨h6, h4⟩]
       have HK := Lib.hid (And.intro hk hk2)
       clear hk hk2 hr h6 h4
       go_wp2_with fail
       go_still_tail 29, (by kernel_rfl)
       go_wp2_with (refine wpList_store_arr rfl 152 (.tmp 8) _ rfl wr.heap.size 152 _ [B (sb t0), B (sb t1), B (sb t2), B (sb t3)] HT1.out rfl rfl (by kernel_rfl) rfl rfl ?_; intro wy hBy hTy; have HY := Lib.hid (And.intro hBy hTy); clear hBy hTy)
       go_meet
       case rel => exact ⟨by rw [Hr1.out, HK.out.2], by rw [HK.out.1]; exact HY.out.1, ((Turn.refl _ wq).drew).trans HY.out.2 (fun x hx => .inl hx)⟩
      ·have r4 : ¬ ((i : Int) % n = 4) := by rw [← Int.natCast_emod]; omega
       have r4' : ((i : Int) % n == 4) = false := by simp only [beq_eq_false_iff_ne, ne_eq]; exact r4
       have hk : kT n i rc t0 t1 t2 t3 = [t0, t1, t2, t3] := by unfold kT; rw [if_neg hr, if_neg (fun h => h4 h.2)]
       have HK := Lib.hid (And.intro hk hk2)
       clear hk hk2 hr h6 h4
       go_wp2_with fail
       go_meet
       case rel => exact ⟨by rw [Hr1.out, HK.out.2], by rw [HK.out.1]; exact HB1.out, Turn.refl _ wq⟩
     ·have r6 : ¬ (6 : Int) < n := by omega
      have r6' : decide ((6 : Int) < n) = false := decide_eq_false r6
      have hk : kT n i rc t0 t1 t2 t3 = [t0, t1, t2, t3] := by unfold kT; rw [if_neg hr, if_neg (fun h => h6 h.1)]
      have HK := Lib.hid (And.intro hk hk2)
      clear hk hk2 hr h6
      go_wp2_with fail
      go_meet
      case rel => exact ⟨by rw [Hr1.out, HK.out.2], by rw [HK.out.1]; exact HB1.out, Turn.refl _ wq⟩
   case rest =>
    obtain ⟨rfl, hcB, hcT⟩ := hcut
    have hOc : Own wc (w.heap.size + 1) (.slice (some ⟨g, 0, none⟩) (4 * i) c') W := by
     have h1 := HW.out.1.alloc_ (.cells #[B t0, B t1, B t2, B t3] 152)
     rw [hwq] at h1
     exact h1.turn hcT (fun k hk hm => by cases hk; have := (HW.out.1.lt (g := g) rfl).2; simp at hm; omega)
    have hBc : Below w.heap.size w wc := by
     refine below_turn (W1 := wq) ?_ hcT (fun t ht => by simp at ht; have := HW.out.2.2.1.size; omega) (by rw [← hwq]; have := HW.out.2.2.1.size; simp; omega)
     rw [← hwq]
     exact HW.out.2.2.1.alloc HW.out.2.2.1.size _
    have hCc : CAt wc w.heap.size (.slice none 0 0) boxL invL := by
     refine ⟨HW.out.2.1.1, HW.out.2.1.2.1, Blk.turn (w := wq) ?_ hcT (fun hm => by simp at hm; have := HW.out.2.1.2.2.lt; omega)⟩
     rw [← hwq]
     exact HW.out.2.1.2.2.alloc _
    obtain ⟨T, hT⟩ : ∃ T, T = kT n i rc t0 t1 t2 t3 := ⟨_, rfl⟩
    obtain ⟨TA, hTA⟩ : ∃ TA, TA = (T.map B).toArray := ⟨_, rfl⟩
    rw [← hT, ← hTA] at hcB
    obtain ⟨K, hK⟩ : ∃ K, K = kAdd n i rc W := ⟨_, rfl⟩
    have hTl : T.length = 4 := by rw [hT]; exact kT_len _ _ _ _ _ _ _
    have hsz : TA.size = 4 := by rw [hTA]; simp [hTl]
    have hTk : ∀ j x, T[j]? = some x → TA[j]? = some (B x) := fun j x h => by rw [hTA, List.getElem?_toArray, List.getElem?_map, h]; rfl
    have hKl : K.length = 4 := by rw [hK]; exact kAdd_len _ _ _ _ (by rw [HW.out.2.2.2]; omega)
    have hKk : ∀ j x y, T[j]? = some x → W[4 * (i - n) + j]? = some y → K[j]? = some (y ^^^ x) := fun j x y hx hy => by
     have hj : j < 4 := by have := (List.getElem?_eq_some_iff.1 hx).1; omega
     rw [hK, HTi.out, ← hT, List.getElem?_zipWith, hx, List.getElem?_take, if_pos hj, List.getElem?_drop, hy]
    have HKA := Lib.hid (And.intro hTl (And.intro hTk (And.intro hKl (And.intro hKk hK))))
    have HS := Lib.hid (And.intro hcB hsz)
    have HC := Lib.hid (And.intro hOc (And.intro hCc hBc))
    clear hcB hsz hOc hCc hBc hTl hTk hKl hKk hK hT hTA hcT hwq hBt
    go_wp2_with (refine wpList_load_arr rfl 152 (.tmp 8) rfl wr.heap.size 152 _ HS.out.1 rfl _ Tryz.underlying152 rfl (by rw [HS.out.2]; rfl) ?_)
    go_loopw [5, 128] (fun sv jv wz => ∃ (j : Nat) (A2 : Option Addr) (n2 c2 : Nat), j ≤ 4 ∧ sv = .slice A2 n2 c2 ∧ jv = .int .i64 (j : Int) ∧ Own wz (w.heap.size + 1) (.slice A2 n2 c2) (W ++ K.take j) ∧ CAt wz w.heap.size (.slice none 0 0) boxL invL ∧ Below w.heap.size w wz) (fun _ jv _ => 4 - (intOf jv).toNat)
    case atStart => exact ⟨0, _, _, _, by omega, rfl, rfl, by simpa using HC.out.1, HC.out.2.1, HC.out.2.2⟩
    case round =>
     obtain ⟨j, A2, n2, c2, hj, rfl, rfl, hO, hC, hB⟩ := hrel
     clear HC HS
     by_cases hlt : j < 4
     ·have hq : (j : Int) < 4 := by omega
      obtain ⟨x, hx⟩ : ∃ x, T[j]? = some x := ⟨_, List.getElem?_eq_getElem (by rw [HKA.out.1]; exact hlt)⟩
      obtain ⟨y, hy⟩ : ∃ y, W[4 * (i - n) + j]? = some y := ⟨_, List.getElem?_eq_getElem (by rw [HW.out.2.2.2]; have := HI.out.1; omega)⟩
      have hlen : (W ++ K.take j).length = 4 * i + j := by rw [List.length_append, List.length_take, HKA.out.2.2.1, HW.out.2.2.2]; omega
      have hn2 : n2 = 4 * i + j := by have := hO.len; omega
      obtain ⟨g2, rfl⟩ : ∃ g2, A2 = some ⟨g2, 0, none⟩ := by
       obtain ⟨g2, c, e⟩ := hO.form (fun e => by injection e with _ e _; omega)
       cases e
       exact ⟨g2, rfl⟩
      subst hn2
      have y0 := hO.cell (4 * (i - n) + j) y (by rw [List.getElem?_append_left (by have := (List.getElem?_eq_some_iff.1 hy).1; omega)]; exact hy)
      have hix := fun w => index_arr (t := 152) (q := .i64) Tryz.underlying152 Tryz.underlying5 (by kernel_rfl) hlt (HKA.out.2.1 j x hx) w
      have g0 : IntKind.i64.wrap ((i : Int) - n) = (i : Int) - n := IntWalk.i64_in _ (by omega)
      have g1 : IntKind.i64.wrap (4 * ((i : Int) - n)) = 4 * ((i : Int) - n) := IntWalk.i64_in _ (by omega)
      have g2' : IntKind.i64.wrap (4 * ((i : Int) - n) + j) = 4 * ((i : Int) - n) + j := IntWalk.i64_in _ (by omega)
      have g3 : (4 * ((i : Int) - n) + j).toNat = 4 * (i - n) + j := by omega
      have g4 : (0 : Int) ≤ 4 * ((i : Int) - n) + j := by omega
      have g5 : 4 * ((i : Int) - n) + j < 4 * (i : Int) + j := by omega
      have hkj := HKA.out.2.2.2.1 j x y hx hy
      have HO := Lib.hid (And.intro hO (And.intro hC (And.intro hB (And.intro hlen hkj))))
      clear hO hC hB hlen hkj hx hy hj
      go_wp2_with (at_builtin; go_must (refine wp_app_lit (.tmp 132) (.tmp 144) (w.heap.size + 1) _ (W ++ K.take j) HO.out.1 (by have := (HO.out.1.lt (g := g2) rfl); omega) [y ^^^ x] (by rw [HO.out.2.2.2.1]; omega) (by simp) rfl rfl rfl rfl rfl rfl ?_); intro A3 n3 c3 w3 hi3 hG3; have H3 := Lib.hid hG3; clear hG3)
      refine ⟨⟨j + 1, A3, n3, c3, by omega, rfl, by go_num, ?_, ?_, ?_⟩, by simp [intOf]; omega⟩
      ·have h1 := H3.out.own
       rw [List.append_assoc] at h1
       rw [List.take_add_one, HO.out.2.2.2.2]
       exact h1
      ·exact ⟨HO.out.2.1.1, HO.out.2.1.2.1, (HO.out.2.1.2.2.alloc _).keep (H3.out.below.block _ (by omega))⟩
      ·exact (HO.out.2.2.1.alloc HO.out.2.2.1.size _).trans (H3.out.below.mono (by omega))
     ·obtain rfl : j = 4 := by omega
      have hq : ¬ ((4 : Int) < 4) := by omega
      have hW1 : W1 = W ++ K.take 4 := by
       have := congrArg Prod.fst HM1.out
       rw [← HKA.out.2.2.2.2] at this
       rw [List.take_of_length_le (by rw [HKA.out.2.2.1]; omega)]
       exact this
      rw [← hW1] at hO
      have HO := Lib.hid (And.intro hO (And.intro hC hB))
      clear hO hC hB hlt hj hW1
      go_wp2_with fail
      refine ⟨⟨m + 1, A2, n2, c2, by have := HI.out.2.2; omega, rfl, by rw [HG.out.2], by have := HI.out.1; rw [this]; go_num, by rw [HG.out.1]; exact HO.out.1, HO.out.2.1, HO.out.2.2⟩, by simp [intOf]; omega⟩
  ·--EXIT1
   have hme : m = 3 * n + 28 := by omega
   have hnn0 := HN.out.2.2.1
   subst hme
   have hks : (kW n l (3 * n + 28)).1 = rks l := by unfold rks; rw [hL, HN.out.2.1]
   rw [hks] at hO hWl
   have hWl' : (rks l).length = 16 * (n + 7) := by omega
   have hnW : n' = 16 * (n + 7) := by have := hO.len; omega
   obtain ⟨g, rfl⟩ : ∃ g, A' = some ⟨g, 0, none⟩ := by
    obtain ⟨g, c, e⟩ := hO.form (fun e => by injection e with _ e _; omega)
    cases e
    exact ⟨g, rfl⟩
   subst hnW
   have hcap := hO.blk.2.1
   have hcapm := hO.blk.2.2.1
   unfold maxLen at hcapm
   have r1 : ¬ (((n + (3 * n + 28) : Nat) : Int) < 4 * ((n : Int) + 7)) := by omega
   have r1b : ¬ ((n : Int) + (3 * (n : Int) + 28) < 4 * ((n : Int) + 7)) := by omega
   have r2 : (16 : Int) * ((n : Int) + 7) ≤ c' := by omega
   have r2b : (16 : Int) * ((n : Int) + 7) ≤ 240 := by omega
   have HX := Lib.hid (And.intro hO (And.intro hC (And.intro hB hWl')))
   clear hO hC hB hWl hWl' hks hm hlt
   go_wp2_with fail
   go_loopw [11] (fun jv wz => ∃ (R : Nat) (kv : Value), R ≤ n + 7 ∧ jv = .int .i64 ((16 * R : Nat) : Int) ∧ CAt wz w.heap.size kv boxL invL ∧ OwnK wz (w.heap.size + 1) kv R ((rks l).take (16 * R)) ∧ Own wz (w.heap.size + 1) (.slice (some ⟨g, 0, none⟩) (16 * (n + 7)) c') (rks l) ∧ Below w.heap.size w wz ∧ kv.ownBlock ≠ some g) (fun jv _ => 16 * (n + 7) - (intOf jv).toNat)
   case atStart => exact ⟨0, .slice none 0 0, by omega, rfl, HX.out.2.1, OwnK.nil _ _, HX.out.1, HX.out.2.2.1, by simp [Value.ownBlock]⟩
   case round =>
    obtain ⟨R, kv, hR, rfl, hC, hK, hO, hB, hne⟩ := hrel
    clear HX
    by_cases hlt : R < n + 7
    ·have s1 : (16 : Int) * R + 16 ≤ 16 * ((n : Int) + 7) := by omega
     have s0 : IntKind.i64.wrap ((16 : Int) * R + 16) = (16 : Int) * R + 16 := IntWalk.i64_in _ (by omega)
     have s2 : (0 : Int) ≤ 16 * (R : Int) := by omega
     have s3 : (16 * (R : Int)).toNat = 16 * R := by omega
     have s4 : (16 * (R : Int) + 16).toNat = 16 * R + 16 := by omega
     have s5 : 16 * R + 16 - 16 * R = 16 := by omega
     have s6 : 16 * (R : Int) ≤ 16 * (R : Int) + 16 := by omega
     have s7 : (16 : Int) * R + 16 ≤ c' := by omega
     have s8 : ¬ c' = 16 * R := by omega
     have hcg : w.heap.size ≠ g := by have := (hO.lt (g := g) rfl).1; omega
     have hclt : w.heap.size < wr.heap.size := hC.2.2.lt
     obtain ⟨b0, b1, b2, b3, b4, b5, b6, b7, b8, b9, b10, b11, b12, b13, b14, b15, hrow⟩ : ∃ b0 b1 b2 b3 b4 b5 b6 b7 b8 b9 b10 b11 b12 b13 b14 b15 : UInt8, ((rks l).drop (16 * R)).take 16 = [b0, b1, b2, b3, b4, b5, b6, b7, b8, b9, b10, b11, b12, b13, b14, b15] := by
      have hl16 : (((rks l).drop (16 * R)).take 16).length = 16 := by have := hO.len; rw [List.length_take, List.length_drop]; omega
      match ((rks l).drop (16 * R)).take 16, hl16 with
      | [a0, a1, a2, a3, a4, a5, a6, a7, a8, a9, a10, a11, a12, a13, a14, a15], _ => exact ⟨a0, a1, a2, a3, a4, a5, a6, a7, a8, a9, a10, a11, a12, a13, a14, a15, rfl⟩
     have hrg : ∀ wq, Turn (w.heap.size :: kv.ownBlock.toList) wr wq → wq.rangeAt g (16 * R) [B b0, B b1, B b2, B b3, B b4, B b5, B b6, B b7, B b8, B b9, B b10, B b11, B b12, B b13, B b14, B b15] := fun wq hq j v hv => by
      have hO2 := hO.turn hq (fun k hk hm => by
       cases hk
       rcases List.mem_cons.1 hm with e | hm
       ·exact hcg e.symm
       ·exact hne (by simpa using hm))
      have hv' : ([b0, b1, b2, b3, b4, b5, b6, b7, b8, b9, b10, b11, b12, b13, b14, b15].map B)[j]? = some v := hv
      rw [List.getElem?_map] at hv'
      obtain ⟨x, hx, rfl⟩ := Option.map_eq_some_iff.1 hv'
      rw [← hrow] at hx
      refine hO2.cell (16 * R + j) x ?_
      rw [List.getElem?_take] at hx
      split at hx
      ·rwa [List.getElem?_drop] at hx
      ·cases hx
     have hat : ∀ w, (Instr.arrayAt 153 (.slice (some ⟨g, 16 * R, none⟩) 16 (c' - 16 * R))).run Tryz.prog w = .ok (.pointer (some ⟨g, 16 * R, none⟩)) w := fun w => run_arrayAt w 153 _ 16 _ 16 _ Tryz.underlying153 (by decide)
     have hrt : (rks l).take (16 * (R + 1)) = (rks l).take (16 * R) ++ [b0, b1, b2, b3, b4, b5, b6, b7, b8, b9, b10, b11, b12, b13, b14, b15] := by
      rw [← hrow, show 16 * (R + 1) = 16 * R + 16 by omega, List.take_add]
     have HRg := Lib.hid hrg
     have HK := Lib.hid (And.intro hC (And.intro hK (And.intro hO (And.intro hB (And.intro hne (And.intro hrow hrt))))))
     clear hC hK hO hB hne hrow hrg hrt
     go_wp2_with fail
     refine region_turn (w.heap.size :: kv.ownBlock.toList) (by kernel_rfl) (fun wd hOld hHeld hSz => ?_)
     have HO := Lib.hid hOld
     clear hOld
     have c0 : wd.cell? ⟨w.heap.size, 0, none⟩ = some kv := by rw [(HK.out.1.2.2.below HO.out).cell 0]; rfl
     have f0 : wd.frozen? ⟨w.heap.size, 0, none⟩ = false := (HK.out.1.2.2.below HO.out).frozen 0
     have z0 : w.heap.size < wd.heap.size := (HK.out.1.2.2.below HO.out).lt
     refine tkS 0 hHeld ?_
     refine tkS 1 hHeld ?_
     refine tkS 2 hHeld ?_
     refine tkS 3 hHeld ?_
     refine tkS 5 hHeld ?_
     refine tkS 6 hHeld ?_
     refine tkS 7 hHeld ?_
     refine tkS 8 hHeld ?_
     refine tkS 9 hHeld ?_
     refine tkS 10 hHeld ?_
     refine takeL (i := 11) (v := .agg #[B b0, B b1, B b2, B b3, B b4, B b5, B b6, B b7, B b8, B b9, B b10, B b11, B b12, B b13, B b14, B b15]) rfl (by kernel_rfl) (by kernel_rfl) (by kernel_rfl) (fun _ _ _ h => h) (yieldsIf_load_mid (by rfl) 153 (.tmp 164) rfl g (16 * R) rfl [B b0, B b1, B b2, B b3, B b4, B b5, B b6, B b7, B b8, B b9, B b10, B b11, B b12, B b13, B b14, B b15] _ HRg.out Tryz.underlying153 rfl (by kernel_rfl)) hHeld ?_
     try simp only [Act.put, sA, sB, sC]
     refine wpAnyH_ready (rs := [4, 12]) (by kernel_rfl) (by simp) ?_
     refine consL rfl (fun K hK => ?_) (consL rfl (fun K hK => ?_) AllReadyH.nil)
     ·go_simp
      refine hK.out _ _ hHeld (fun hHeld => ?_)
      clear hK K
      try simp only [Act.put, sA, sB, sC]
      refine rdL 12 (fun K hK => ?_)
      go_simp
      refine hK.out _ _ (hHeld.alloc _) (fun hHeld => ?_)
      clear hK K
      try simp only [Act.put, sA, sB, sC]
      refine rdL 13 (fun K hK => ?_)
      refine step_appK rfl (.tmp 158) (.tmp 166) rfl (w.heap.size + 1) R kv ((rks l).take (16 * R)) rfl ?_ wd.heap.size [b0, b1, b2, b3, b4, b5, b6, b7, b8, b9, b10, b11, b12, b13, b14, b15] rfl rfl ?_ (by omega) ?_ ?_
      ·exact ((HK.out.2.1.keep fun k hk => HO.out.block k (HK.out.2.1.lt hk).2)).alloc_ _
      ·exact cells_new wd [b0, b1, b2, b3, b4, b5, b6, b7, b8, b9, b10, b11, b12, b13, b14, b15] _
      ·simp; omega
      intro v2 w2 hk2 hg2 hb2
      rw [← HK.out.2.2.2.2.2.2] at hk2
      refine hK.out _ _ (hHeld.grown hg2 (fun k hk => .inl (by rw [hk]; simp))) (fun hHeld => ?_)
      clear hK K
      try simp only [Act.put, sA, sB, sC]
      have hC2 : CAt w2 w.heap.size kv boxL invL := by
       refine ⟨HK.out.1.1, HK.out.1.2.1, Blk.keep ((HK.out.1.2.2.below HO.out).alloc _) (hg2.block _ (by simp; omega) (fun e => ?_))⟩
       have := (HK.out.2.1.lt e.symm).1
       omega
      have d0 : w2.cell? ⟨w.heap.size, 0, none⟩ = some kv := by rw [hC2.2.2.cell 0]; rfl
      have d1 : w2.frozen? ⟨w.heap.size, 0, none⟩ = false := hC2.2.2.frozen 0
      have H2 := Lib.hid (And.intro hk2 (And.intro hb2 hC2))
      clear hk2 hg2 hb2 hC2 c0 f0
      refine rdL 14 (fun K hK => ?_)
      go_simp
      refine hK.out _ _ hHeld (fun hHeld => ?_)
      clear hK K
      try simp only [Act.put, sA, sB, sC]
      refine rdL 15 (fun K hK => ?_)
      go_simp
      refine hK.out _ _ hHeld (fun hHeld => ?_)
      clear hK K
      try simp only [Act.put, sA, sB, sC]
      refine rdL 16 (fun K hK => ?_)
      obtain ⟨A3, n3, hv2, _⟩ := H2.out.1.form (by omega)
      subst hv2
      go_simp
      refine hK.out _ _ (hHeld.setCell (.inl (by simp)) _) (fun hHeld => ?_)
      clear hK K
      try simp only [Act.put, sA, sB, sC]
      refine wpAnyH_done (by kernel_rfl) ?_ _
      refine NoPanic.normal ?_
      have HH := Lib.hid hHeld
      clear hHeld d0 d1
      go_wp2_with fail
      have hne2 : (Value.slice (some ⟨A3, 0, none⟩) (R + 1) n3).ownBlock ≠ some w.heap.size := fun e => by have := (H2.out.1.lt e).1; omega
      refine ⟨⟨R + 1, .slice (some ⟨A3, 0, none⟩) (R + 1) n3, by omega, by go_num, H2.out.2.2.keys _, H2.out.1.keep fun k hk => (Below.heap_setCell _ _ _ k (fun e => hne2 (by rw [hk, e]))), ?_, ?_, ?_⟩, by simp [intOf]; omega⟩
      ·exact HK.out.2.2.1.turn HH.out (fun k hk hm => by
        cases hk
        rcases List.mem_cons.1 hm with e | hm
        ·exact hcg e.symm
        ·exact HK.out.2.2.2.2.1 (by simpa using hm))
      ·exact below_turn HK.out.2.2.2.1 HH.out (fun t ht => by
        rcases List.mem_cons.1 ht with e | hm
        ·omega
        ·have := (HK.out.2.1.lt (show _ = some t by simpa using hm)).1; omega) HK.out.2.2.2.1.size
      ·rcases H2.out.2.1 with e | e
       ·rw [e]; exact HK.out.2.2.2.2.1
       ·rw [e]; intro e2; have h1 := (HK.out.2.2.1.lt (g := g) rfl).2; have h2 := HO.out.size; injection e2 with e2; simp at e2; omega
     ·go_simp
      refine hK.out _ _ (hHeld.alloc _) (fun hHeld => ?_)
      clear hK K
      try simp only [Act.put, sA, sB, sC]
      refine rdL 4 (fun K hK => ?_)
      go_simp
      refine hK.out _ _ hHeld (fun hHeld => ?_)
      clear hK K
      try simp only [Act.put, sA, sB, sC]
      refine rdL 13 (fun K hK => ?_)
      refine step_appK rfl (.tmp 158) (.tmp 166) rfl (w.heap.size + 1) R kv ((rks l).take (16 * R)) rfl ?_ wd.heap.size [b0, b1, b2, b3, b4, b5, b6, b7, b8, b9, b10, b11, b12, b13, b14, b15] rfl rfl ?_ (by omega) ?_ ?_
      ·exact ((HK.out.2.1.keep fun k hk => HO.out.block k (HK.out.2.1.lt hk).2)).alloc_ _
      ·exact cells_new wd [b0, b1, b2, b3, b4, b5, b6, b7, b8, b9, b10, b11, b12, b13, b14, b15] _
      ·simp; omega
      intro v2 w2 hk2 hg2 hb2
      rw [← HK.out.2.2.2.2.2.2] at hk2
      refine hK.out _ _ (hHeld.grown hg2 (fun k hk => .inl (by rw [hk]; simp))) (fun hHeld => ?_)
      clear hK K
      try simp only [Act.put, sA, sB, sC]
      have hC2 : CAt w2 w.heap.size kv boxL invL := by
       refine ⟨HK.out.1.1, HK.out.1.2.1, Blk.keep ((HK.out.1.2.2.below HO.out).alloc _) (hg2.block _ (by simp; omega) (fun e => ?_))⟩
       have := (HK.out.2.1.lt e.symm).1
       omega
      have d0 : w2.cell? ⟨w.heap.size, 0, none⟩ = some kv := by rw [hC2.2.2.cell 0]; rfl
      have d1 : w2.frozen? ⟨w.heap.size, 0, none⟩ = false := hC2.2.2.frozen 0
      have H2 := Lib.hid (And.intro hk2 (And.intro hb2 hC2))
      clear hk2 hg2 hb2 hC2 c0 f0
      refine rdL 14 (fun K hK => ?_)
      go_simp
      refine hK.out _ _ hHeld (fun hHeld => ?_)
      clear hK K
      try simp only [Act.put, sA, sB, sC]
      refine rdL 15 (fun K hK => ?_)
      go_simp
      refine hK.out _ _ hHeld (fun hHeld => ?_)
      clear hK K
      try simp only [Act.put, sA, sB, sC]
      refine rdL 16 (fun K hK => ?_)
      obtain ⟨A3, n3, hv2, _⟩ := H2.out.1.form (by omega)
      subst hv2
      go_simp
      refine hK.out _ _ (hHeld.setCell (.inl (by simp)) _) (fun hHeld => ?_)
      clear hK K
      try simp only [Act.put, sA, sB, sC]
      refine wpAnyH_done (by kernel_rfl) ?_ _
      refine NoPanic.normal ?_
      have HH := Lib.hid hHeld
      clear hHeld d0 d1
      go_wp2_with fail
      have hne2 : (Value.slice (some ⟨A3, 0, none⟩) (R + 1) n3).ownBlock ≠ some w.heap.size := fun e => by have := (H2.out.1.lt e).1; omega
      refine ⟨⟨R + 1, .slice (some ⟨A3, 0, none⟩) (R + 1) n3, by omega, by go_num, H2.out.2.2.keys _, H2.out.1.keep fun k hk => (Below.heap_setCell _ _ _ k (fun e => hne2 (by rw [hk, e]))), ?_, ?_, ?_⟩, by simp [intOf]; omega⟩
      ·exact HK.out.2.2.1.turn HH.out (fun k hk hm => by
        cases hk
        rcases List.mem_cons.1 hm with e | hm
        ·exact hcg e.symm
        ·exact HK.out.2.2.2.2.1 (by simpa using hm))
      ·exact below_turn HK.out.2.2.2.1 HH.out (fun t ht => by
        rcases List.mem_cons.1 ht with e | hm
        ·omega
        ·have := (HK.out.2.1.lt (show _ = some t by simpa using hm)).1; omega) HK.out.2.2.2.1.size
      ·rcases H2.out.2.1 with e | e
       ·rw [e]; exact HK.out.2.2.2.2.1
       ·rw [e]; intro e2; have h1 := (HK.out.2.2.1.lt (g := g) rfl).2; have h2 := HO.out.size; injection e2 with e2; simp at e2; omega
    ·obtain rfl : R = n + 7 := by omega
     have s0 : IntKind.i64.wrap ((16 : Int) * ((n : Int) + 7) + 16) = (16 : Int) * ((n : Int) + 7) + 16 := IntWalk.i64_in _ (by omega)
     have s1 : ¬ ((16 : Int) * ((n : Int) + 7) + 16 ≤ 16 * ((n : Int) + 7)) := by omega
     obtain ⟨K, cq, rfl, k1, k2, k3, k4, k5⟩ := hK.form (by omega)
     rw [List.take_of_length_le (by have := hO.len; omega)] at k5
     have hfin : Cip wr w.heap.size w.heap.size (rks l) K (n + 7) cq := ⟨hC, Nat.le_refl _, by omega, k2, by omega, by have := hO.len; omega, by omega, by omega, k3, k4, k5⟩
     have HF := Lib.hid (And.intro hfin hB)
     clear hfin hC hK hO hB hne k1 k2 k3 k4 k5 hR hlt
     go_wp2_with fail
     go_ret
     exact ⟨_, rfl, ⟨K, n + 7, cq, HF.out.1⟩, HF.out.2⟩
end Go.Proofs.YtgjnmpjimhbfgaaGreatDoor
