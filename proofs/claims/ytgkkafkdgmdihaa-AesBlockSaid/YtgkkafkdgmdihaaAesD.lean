/-
  Decrypt.
-/
import Derived.Test.YtgkkafkdgmdihaaAesY
import Derived.Laws.Cover3
import Derived.Deep.DeepCutAuto
import Derived.Deep.CutBlock
namespace Go.Proofs.Ytgkkafkdgmdihaa
open Go.RowKit

def Z16 : Array Value := #[.int .u8 0, .int .u8 0, .int .u8 0, .int .u8 0, .int .u8 0, .int .u8 0, .int .u8 0, .int .u8 0, .int .u8 0, .int .u8 0, .int .u8 0, .int .u8 0, .int .u8 0, .int .u8 0, .int .u8 0, .int .u8 0]
theorem z16_map : Z16 = ((zs 16).map B).toArray := rfl
theorem st_new (w : World) : St (w.alloc (.cells Z16 45)) w.heap.size (zs 16) := ⟨rfl, by rw [z16_map]; exact Blk.new _ _ _⟩
theorem Cip.below {W W' : World} {b0 c : Nat} {ks : List UInt8} {K R cp : Nat} (h : Cip W b0 c ks K R cp) (hb : Below W.heap.size W W') : Cip W' b0 c ks K R cp := by
  obtain ⟨h1, h2, h3, h4, h5, h6, h7, h8, h9, h10, h11⟩ := h
  refine ⟨⟨h1.1, h1.2.1, h1.2.2.below hb⟩, h2, h3, Nat.lt_of_lt_of_le h4 hb.size, h5, h6, h7, h8, h9, h10, fun j x hx => ?_⟩
  rw [hb.cell (p := ⟨K, j, none⟩) h4]; exact h11 j x hx
def key (ks : List UInt8) (i : Nat) : List UInt8 := (ks.drop (16 * i)).take 16
theorem key_len (ks : List UInt8) (R i : Nat) (h : ks.length = 16 * R) (hi : i < R) : (key ks i).length = 16 := by unfold key; rw [List.length_take, List.length_drop]; omega
theorem Cip.rd {W : World} {b0 c : Nat} {ks : List UInt8} {K R cp : Nat} (h : Cip W b0 c ks K R cp) (i : Nat) (hi : i < R) : Rd W (some ⟨K, i * 16, none⟩) 16 16 (key ks i) := by
  rw [Nat.mul_comm]
  obtain ⟨h1, h2, h3, h4, h5, h6, h7, h8, h9, h10, h11⟩ := h
  refine ⟨(key_len ks R i h6 hi).symm, Nat.le_refl _, by unfold maxLen; omega, .inr ⟨K, 16 * i, rfl, h4, fun k x hx => h11 _ _ ?_⟩⟩
  unfold key at hx
  rw [List.getElem?_take] at hx
  split at hx
  · rwa [List.getElem?_drop] at hx
  · cases hx
/-- The place to which byte j goes. -/
def shp (j : Nat) : Nat := (j + j % 4 * 4) % 16
def decN (l : List UInt8) : Nat → List UInt8
  | 0 => zs 16
  | j + 1 => (decN l j).set (shp j) (si (l.getD j 0))
theorem decN_len (l : List UInt8) (j : Nat) : (decN l j).length = 16 := by
  induction j with
  | zero => rfl
  | succ j ih => unfold decN; rw [List.length_set]; exact ih
def decM (R i : Nat) (s : List UInt8) : List UInt8 := if i < R - 1 then mixN s [14, 11, 13, 9] 4 else s
def decF (ks : List UInt8) (R : Nat) : Nat → List UInt8 → List UInt8
  | 0, s => xorL s (key ks 0)
  | i + 1, s => decF ks R i (decN (decM R (i + 1) (xorL s (key ks (i + 1)))) 16)
def decL (ks : List UInt8) (R : Nat) (l : List UInt8) : List UInt8 := decF ks R (R - 1) l
theorem list16 (l : List UInt8) (h : l.length = 16) : ∃ x0 x1 x2 x3 x4 x5 x6 x7 x8 x9 x10 x11 x12 x13 x14 x15 : UInt8, l = [x0, x1, x2, x3, x4, x5, x6, x7, x8, x9, x10, x11, x12, x13, x14, x15] := by
  match l, h with
  | [x0, x1, x2, x3, x4, x5, x6, x7, x8, x9, x10, x11, x12, x13, x14, x15], _ => exact ⟨x0, x1, x2, x3, x4, x5, x6, x7, x8, x9, x10, x11, x12, x13, x14, x15, rfl⟩
set_option maxRecDepth 100000 in
set_option maxHeartbeats 4000000 in
theorem dec_any (b0 c : Nat) (ks : List UInt8) (K R cp : Nat) (A : Option Addr) (cb : Nat) (l : List UInt8) (w : World) (h : Cip w b0 c ks K R cp) (hr : Rd w A 16 cb l) :
    Calls Try.prog 11 #[.pointer (some ⟨c, 0, none⟩), .slice A 16 cb] w fun e w' => ∃ sb : Nat, e = .returned (.slice (some ⟨sb, 0, none⟩) 16 16) ∧ w.heap.size ≤ sb ∧ St w' sb (decL ks R l) ∧ Below w.heap.size w w' := by
  have hl : l.length = 16 := hr.1.symm
  obtain ⟨bb, off, rfl, ha⟩ := hr.addr (by omega)
  have hR1 : 11 ≤ R := h.2.2.2.2.2.2.1
  have hR2 : R ≤ 15 := h.2.2.2.2.2.2.2.1
  have hR2' : (R : Int) ≤ 15 := by omega
  have hR1' : (11 : Int) ≤ R := by omega
  have c0 : w.cell? ⟨c, 0, none⟩ = some (.slice (some ⟨K, 0, none⟩) R cp) := by rw [h.1.2.2.cell 0]; rfl
  have hclt := h.1.2.2.lt
  obtain ⟨x0, x1, x2, x3, x4, x5, x6, x7, x8, x9, x10, x11, x12, x13, x14, x15, hl16⟩ := list16 l hl
  have hrng : w.rangeAt bb off [B x0, B x1, B x2, B x3, B x4, B x5, B x6, B x7, B x8, B x9, B x10, B x11, B x12, B x13, B x14, B x15] := fun j v hv => by
    have hv' : (l.map B)[j]? = some v := by rw [hl16]; exact hv
    rw [List.getElem?_map] at hv'
    obtain ⟨x, hx, rfl⟩ := Option.map_eq_some_iff.1 hv'
    exact ha.2 j x hx
  have hcb : 16 ≤ cb := hr.2.1
  have hat : ∀ w, (Instr.arrayAt 45 (.slice (some ⟨bb, off, none⟩) 16 cb)).run Try.prog w = .ok (.pointer (some ⟨bb, off, none⟩)) w := fun w => run_arrayAt w 45 _ 16 _ 16 _ Try.underlying45 (by decide)
  have hSt : St (w.alloc (.cells #[B x0, B x1, B x2, B x3, B x4, B x5, B x6, B x7, B x8, B x9, B x10, B x11, B x12, B x13, B x14, B x15] 45)) w.heap.size l := by rw [hl16]; exact ⟨rfl, Blk.new _ _ _⟩
  have hb1 : Below w.heap.size w (w.alloc (.cells #[B x0, B x1, B x2, B x3, B x4, B x5, B x6, B x7, B x8, B x9, B x10, B x11, B x12, B x13, B x14, B x15] 45)) := (Below.refl _ _).alloc (Nat.le_refl _) _
  have HH := Lib.hid (And.intro h (And.intro hrng (And.intro hl (And.intro hSt hb1))))
  clear h hrng hr ha hl hl16 hSt hb1
  go_enter Try.func11, Try.ntmps11
  go_wp2_with (refine wpList_load_mid rfl 45 (.tmp 17) rfl bb off rfl [B x0, B x1, B x2, B x3, B x4, B x5, B x6, B x7, B x8, B x9, B x10, B x11, B x12, B x13, B x14, B x15] _ HH.out.2.1 Try.underlying45 rfl rfl ?_)
  go_loopw [6] (fun iv wr => ∃ (i : Nat) (s : List UInt8), i < R ∧ iv = .int .i64 (i : Int) ∧ St wr w.heap.size s ∧ decF ks R i s = decL ks R l ∧ Below w.heap.size w wr) (fun iv _ => (intOf iv).toNat)
  case atStart => exact ⟨R - 1, l, by omega, by go_num, HH.out.2.2.2.1, rfl, HH.out.2.2.2.2⟩
  case round =>
    obtain ⟨i, s, hi, rfl, hS, hD, hB⟩ := hrel
    have hC := HH.out.1.below hB
    have q1 : (0 : Int) ≤ i := by omega
    have q2 : (i : Int) < R := by omega
    have q3 : w.heap.size < wr.heap.size := hS.lt
    have z0 : wr.cell? ⟨c, 0, none⟩ = some (.slice (some ⟨K, 0, none⟩) R cp) := by rw [hC.1.2.2.cell 0]; rfl
    have hcr : c < wr.heap.size := hC.1.2.2.lt
    have hKne : K ≠ w.heap.size := by have := HH.out.1.2.2.2.1; omega
    have hKr := hC.rd i hi
    have HA := Lib.hid (add_any w.heap.size s (some ⟨K, i * 16, none⟩) 16 (key ks i) wr hS hKr (fun ad h => by cases h; exact hKne))
    have HR := Lib.hid (And.intro hC (And.intro hD (And.intro hB hi)))
    have hxl : (xorL s (key ks i)).length = 16 := xorL_len _ _ 16 hS.1 hKr.1.symm
    clear hC hD hB hKr hi hS
    have hst : ∀ w2 w3, Turn [w.heap.size] wr w2 → Turn [w.heap.size] w2 w3 → Turn [w.heap.size] wr w3 ∧ w3.cell? ⟨c, 0, none⟩ = some (.slice (some ⟨K, 0, none⟩) R cp) ∧ c < w3.heap.size := fun w2 w3 h2 h3 => by
      have ht := h2.trans h3 (fun x hx => .inl hx)
      refine ⟨ht, ?_, Nat.lt_of_lt_of_le hcr ht.size⟩
      rw [World.cell?_of_block (a := ⟨c, 0, none⟩) (ht.block c hcr (by simp; omega))]; exact z0
    have HSt := Lib.hid hst
    clear hst
    have z5 : (0 : Int) ≤ R := by omega
    go_upto_if 38 with (go_at_call 24; go_must (refine HA.out.mono ?_); rintro e w2 ⟨rfl, hS2, hT2⟩; obtain ⟨hT2', z2, hc2⟩ := HSt.out _ _ (Turn.refl _ _) hT2; have H2 := Lib.hid (And.intro hS2 hT2); clear hS2 hT2 hT2')
    by_cases h0 : i = 0
    · have h0' : ((i : Int) == 0) = true := by simp; omega
      go_wp2_with fail
      go_ret
      refine ⟨w.heap.size, rfl, Nat.le_refl _, ?_, below_turn HR.out.2.2.1 H2.out.2 (by simp) HR.out.2.2.1.size⟩
      have hd := HR.out.2.1
      have hs2 := H2.out.1
      subst h0
      rw [← hd]; exact hs2
    · have h0' : ((i : Int) == 0) = false := by simp; omega
      obtain ⟨i', rfl⟩ : ∃ i', i = i' + 1 := ⟨i - 1, by omega⟩
      have q4 : IntKind.i64.wrap ((R : Int) - 1) = (R : Int) - 1 := IntWalk.i64_in _ (by omega)
      generalize hs1 : xorL s (key ks (i' + 1)) = s1 at *
      go_upto_if 46 with fail
      go_cut [6] from 25 to 68 (fun v wx => v = .int .i64 ((i' : Int) + 1) ∧ St wx w.heap.size (decM R (i' + 1) s1) ∧ Turn [w.heap.size] wr wx)
      case first =>
        by_cases hm : i' + 1 < R - 1
        · have hm' : decide (((i' + 1 : Nat) : Int) < (R : Int) - 1) = true := decide_eq_true (by omega)
          have hm2 : (i' : Int) + 1 < (R : Int) - 1 := by omega
          have hMix : Calls Try.prog 23 #[.pointer (some ⟨w.heap.size, 0, none⟩), .agg #[.int .u8 14, .int .u8 11, .int .u8 13, .int .u8 9]] w2 fun e w' => e = .returned (.tuple #[]) ∧ St w' w.heap.size (mixN s1 [14, 11, 13, 9] 4) ∧ Turn [w.heap.size] w2 w' := mix_any w.heap.size s1 14 11 13 9 w2 H2.out.1
          have HM := Lib.hid hMix
          have hdm : decM R (i' + 1) s1 = mixN s1 [14, 11, 13, 9] 4 := by unfold decM; rw [if_pos hm]
          have HDM := Lib.hid hdm
          clear hMix hdm
          go_wp2_with (go_at_call 23; go_must (refine HM.out.mono ?_); rintro e w3 ⟨rfl, hS3, hT3⟩; have H3 := Lib.hid (And.intro hS3 hT3); clear hS3 hT3)
          go_meet
          case rel => exact ⟨by go_num, by rw [HDM.out]; exact H3.out.1, H2.out.2.trans H3.out.2 (fun x hx => .inl hx)⟩
        · have hm' : decide (((i' + 1 : Nat) : Int) < (R : Int) - 1) = false := decide_eq_false (by omega)
          have hm2 : ¬ ((i' : Int) + 1 < (R : Int) - 1) := by omega
          have hdm : decM R (i' + 1) s1 = s1 := by unfold decM; rw [if_neg hm]
          have HDM := Lib.hid hdm
          clear hdm
          go_wp2_with fail
          go_meet
          case rel => exact ⟨by go_num, by rw [HDM.out]; exact H2.out.1, H2.out.2⟩
      case rest =>
        obtain ⟨rfl, hS3, hT3⟩ := hcut
        generalize hs2 : decM R (i' + 1) s1 = s2 at *
        have hs3 := hS3.1
        have hB3 := below_turn HR.out.2.2.1 hT3 (by simp) HR.out.2.2.1.size
        have hC3 := HH.out.1.below hB3
        have n1 : w.heap.size ≠ wc.heap.size := by have := hS3.lt; omega
        have n2 : c ≠ wc.heap.size := by have := hC3.1.2.2.lt; omega
        have hwc : w.heap.size ≤ wc.heap.size := hB3.size
        have hZ := st_new wc
        have hS3a := hS3.alloc_ (.cells Z16 45)
        have hC3a : CAt (wc.alloc (.cells Z16 45)) c _ boxL invL := ⟨hC3.1.1, hC3.1.2.1, hC3.1.2.2.alloc _⟩
        have hB3a : Below w.heap.size w (wc.alloc (.cells Z16 45)) := hB3.alloc hB3.size _
        have HZ := Lib.hid (And.intro hZ (And.intro hS3a (And.intro hC3a (And.intro hB3a hs3))))
        clear hZ hS3a hC3a hB3a hs3 hB3 hC3 hS3 hT3 H2 z0 z2 hc2 HA HSt
        unfold Z16 at HZ
        go_wp2_with fail
        generalize wc.alloc (.cells #[.int .u8 0, .int .u8 0, .int .u8 0, .int .u8 0, .int .u8 0, .int .u8 0, .int .u8 0, .int .u8 0, .int .u8 0, .int .u8 0, .int .u8 0, .int .u8 0, .int .u8 0, .int .u8 0, .int .u8 0, .int .u8 0] 45) = wd at *
        generalize wc.heap.size = tb at *
        go_loopw [49] (fun jv wz => ∃ j : Nat, j ≤ 16 ∧ jv = .int .i64 (j : Int) ∧ St wz tb (decN s2 j) ∧ Turn [tb] wd wz) (fun jv _ => 16 - (intOf jv).toNat)
        case atStart => exact ⟨0, by omega, rfl, HZ.out.1, Turn.refl _ _⟩
        case round =>
          obtain ⟨j, hj, rfl, hA, hT⟩ := hrel
          by_cases hlt : j < 16
          · have hq : (j : Int) < 16 := by omega
            obtain ⟨x, hx⟩ := at16 s2 HZ.out.2.2.2.2 j hlt
            have hS := HZ.out.2.1.turn hT (by simp; exact n1)
            have y2 := hS.cell j x hx
            have hC : CAt wr c _ boxL invL := ⟨HZ.out.2.2.1.1, HZ.out.2.2.1.2.1, HZ.out.2.2.1.2.2.turn hT (by simp; exact n2)⟩
            have y3 := hC.invCell _ _ (inv_at x)
            have e3 : (x.toNat : Int) < 256 := by have := x.toNat_lt; omega
            obtain ⟨p, hp⟩ : ∃ p, p = shp j := ⟨_, rfl⟩
            have hp' : p = (j + j % 4 * 4) % 16 := hp
            have hp16 : p < 16 := by omega
            obtain ⟨m, hm⟩ : ∃ m, m = j % 4 := ⟨_, rfl⟩
            have g0 : (j : Int).tmod 4 = (m : Int) := by rw [Int.tmod_eq_emod_of_nonneg (by omega)]; omega
            have g1 : IntKind.i64.wrap ((m : Int) * 4) = (m : Int) * 4 := IntWalk.i64_in _ (by omega)
            have g2 : IntKind.i64.wrap ((j : Int) + (m : Int) * 4) = (j : Int) + (m : Int) * 4 := IntWalk.i64_in _ (by omega)
            have g6 : ((j : Int) + (m : Int) * 4).tmod 16 = (p : Int) := by rw [Int.tmod_eq_emod_of_nonneg (by omega)]; omega
            have g4 : (p : Int) < 16 := by omega
            obtain ⟨y, hy⟩ := at16 (decN s2 j) hA.1 p hp16
            have y0 := hA.cell p y hy
            have y1 := hA.frozen p
            have hnew : decN s2 (j + 1) = (decN s2 j).set p (si x) := by
              show (decN s2 j).set (shp j) (si (s2.getD j 0)) = _
              rw [← hp, List.getD_eq_getElem?_getD, hx]; rfl
            have HB := Lib.hid (And.intro hA (And.intro hT hnew))
            clear hA hT hnew hS hC hx hp hp' hy hm
            go_wp2_with fail
            go_still_tail 15, (by kernel_rfl)
            go_wp2_with fail
            have h1 := HB.out.1.set_ p (si x)
            go_roundw
            case rel => exact ⟨j + 1, by omega, by go_num, by rw [HB.out.2.2]; exact h1.drew, (HB.out.2.1.setCell (p := ⟨tb, p, none⟩) (.inl (by simp)) _).drew⟩
            case measure => simp [intOf]; omega
          · obtain rfl : j = 16 := by omega
            have hq : ¬ ((16 : Int) < 16) := by omega
            have hS := HZ.out.2.1.turn hT (by simp; exact n1)
            have hB := below_turn HZ.out.2.2.2.1 hT (by simp; exact hwc) HZ.out.2.2.2.1.size
            have hdl := decN_len s2 16
            have hd := HR.out.2.1
            have hd2 : decF ks R (i' + 1) s = decF ks R i' (decN s2 16) := by
              show decF ks R i' (decN (decM R (i' + 1) (xorL s (key ks (i' + 1)))) 16) = _
              rw [hs1, hs2]
            have HX := Lib.hid (And.intro hA (And.intro hS (And.intro hB (And.intro hdl (hd2.symm.trans hd)))))
            clear hA hT hS hB hdl hd hd2 hj hlt
            generalize decN s2 16 = s3 at *
            go_wp2_with (first | (refine wpList_load_arr rfl 45 (.tmp 7) rfl tb 45 _ HX.out.1.2 rfl _ Try.underlying45 rfl (by rw [show (s3.map B).toArray.size = 16 by simp [HX.out.2.2.2.1]]; rfl) ?_) | (refine wpList_store_arr rfl 45 (.tmp 5) _ rfl w.heap.size 45 _ (s3.map B) HX.out.2.1.2 rfl rfl (by rw [List.length_map, HX.out.2.2.2.1]; rfl) (by simp [HX.out.2.2.2.1, HX.out.2.1.1]) (by rw [List.all_eq_true]; exact map_one s3) ?_; intro w5 hB5 hT5; have H5 := Lib.hid (And.intro hB5 hT5); clear hB5 hT5))
            have hS5 : St w5 w.heap.size s3 := ⟨HX.out.2.2.2.1, H5.out.1⟩
            exact ⟨⟨i', s3, by have := HR.out.2.2.2; omega, rfl, hS5, HX.out.2.2.2.2, below_turn HX.out.2.2.1 H5.out.2 (by simp) HX.out.2.2.1.size⟩, by first | (simp [intOf]; done) | (simp [intOf]; omega)⟩
end Go.Proofs.Ytgkkafkdgmdihaa
