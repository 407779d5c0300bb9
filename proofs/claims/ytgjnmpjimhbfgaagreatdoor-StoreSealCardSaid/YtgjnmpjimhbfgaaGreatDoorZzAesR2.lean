/-
  The reference's cipher in memory; its mix.
-/
import Derived.Test.YtgjnmpjimhbfgaaGreatDoorZzAesBx
import Derived.StillTailTactics
import Derived.Deep.DeepCutAuto
import Derived.Deep.CutBlock
import Derived.Test.YtgjnmpjimhbfgaaGreatDoorZzNoB
import Derived.Test.YtgjnmpjimhbfgaaGreatDoorZzOwnR
namespace Go.Proofs.YtgjnmpjimhbfgaaGreatDoor
set_option maxRecDepth 100000
open Go.RowKit
def RCip (W : World) (c kb R cap g1 g2 : Nat) (ks : List UInt8) : Prop :=
 Blk W c 127 #[.slice (some ⟨kb, 0, none⟩) R cap, .slice (some ⟨g1, 0, none⟩) 256 256, .slice (some ⟨g2, 0, none⟩) 256 256] ∧ kb < W.heap.size ∧ ks.length = 16 * R ∧ 11 ≤ R ∧ R ≤ 15 ∧ R ≤ cap ∧
 (∀ i, i < R → ∃ gk o, W.cell? ⟨kb, i, none⟩ = some (.slice (some ⟨gk, o, none⟩) 16 16) ∧ Rd W (some ⟨gk, o, none⟩) 16 16 (key ks i)) ∧ Rd W (some ⟨g1, 0, none⟩) 256 256 boxL ∧ Rd W (some ⟨g2, 0, none⟩) 256 256 invL
theorem RCip.below {W W' : World} {c kb R cap g1 g2 : Nat} {ks : List UInt8} (h : RCip W c kb R cap g1 g2 ks) (hb : Below W.heap.size W W') : RCip W' c kb R cap g1 g2 ks := by
 obtain ⟨h1, h2, h3, h4, h5, h6, h7, h8, h9⟩ := h
 refine ⟨h1.below hb, Nat.lt_of_lt_of_le h2 hb.size, h3, h4, h5, h6, fun i hi => ?_, h8.below hb, h9.below hb⟩
 obtain ⟨gk, o, a, b⟩ := h7 i hi
 exact ⟨gk, o, by rw [hb.cell (p := ⟨kb, i, none⟩) h2]; exact a, b.below hb⟩
def rmix (l fs : List UInt8) : List UInt8 := (List.range 16).map fun p => mixB l fs (4 * (p / 4)) (p % 4) 4
theorem rmix_len (l fs : List UInt8) : (rmix l fs).length = 16 := by simp [rmix]
theorem rmix_at (l fs : List UInt8) (p : Nat) (h : p < 16) : (rmix l fs)[p]? = some (mixB l fs (4 * (p / 4)) (p % 4) 4) := by unfold rmix; rw [List.getElem?_map, List.getElem?_range h]; rfl
theorem rmix_eq (l : List UInt8) (f0 f1 f2 f3 : UInt8) (h : l.length = 16) : rmix l [f0, f1, f2, f3] = mixN l [f0, f1, f2, f3] 4 := by
 obtain ⟨x0, x1, x2, x3, x4, x5, x6, x7, x8, x9, x10, x11, x12, x13, x14, x15, rfl⟩ := list16 l h
 rfl
theorem rtimes_still (b f : UInt8) (w : World) : Calls Tryz.prog 77 #[B b, B f] w fun e w' => e = .returned (B (gm b f)) ∧ w' = w := (rtimes_any b f w).mono fun _ _ h => ⟨h.1, h.2.symm⟩
set_option maxRecDepth 100000 in
set_option maxHeartbeats 2000000 in
theorem rmix_any (A C : Option Addr) (ca cc : Nat) (l fs : List UInt8) (w : World) (hl : Rd w A 16 ca l) (hf : Rd w C 4 cc fs) :
  Calls Tryz.prog 79 #[.slice A 16 ca, .slice C 4 cc] w fun e w' => e = .returned (.slice (some ⟨w.heap.size, 0, none⟩) 16 16) ∧ Own w' w.heap.size (.slice (some ⟨w.heap.size, 0, none⟩) 16 16) (rmix l fs) ∧ Below w.heap.size w w' := by
 have hll : l.length = 16 := hl.1.symm
 have hfl : fs.length = 4 := hf.1.symm
 have hca := hl.2.1
 have hcc := hf.2.1
 obtain ⟨bl, ol, rfl, hal⟩ := hl.addr (by omega)
 obtain ⟨bf, of_, rfl, haf⟩ := hf.addr (by omega)
 obtain ⟨X, hX⟩ : ∃ X, w.heap.size = X := ⟨_, rfl⟩
 have hmk := Tryz.prog_make 16 (by omega) w
 obtain ⟨w1, hw1⟩ : ∃ w1, w.alloc (.cells (madeCells #[.int .u8 0] 16) 5) = w1 := ⟨_, rfl⟩
 have hO1 : Own w1 X (.slice (some ⟨X, 0, none⟩) 16 16) (zs 16) := by rw [← hw1, ← hX]; exact Own.made w 16 (by unfold maxLen; omega)
 have hB1 : Below X w w1 := by rw [← hw1, ← hX]; exact (Below.refl _ _).alloc (Nat.le_refl _) _
 rw [hw1, hX, show ((16 : Nat) : Int) = 16 from rfl] at hmk
 have hblX : bl < X := by rw [← hX]; exact hal.1
 have hbfX : bf < X := by rw [← hX]; exact haf.1
 have HH := Lib.hid (And.intro hal (And.intro haf (And.intro hll (And.intro hfl (And.intro hO1 hB1)))))
 clear hal haf hl hf hll hfl hO1 hB1 hw1
 rw [hX]
 go_enter Tryz.func79, Tryz.ntmps79
 go_wp2_with fail
 clear hmk
 go_loopw [6] (fun iv wr => ∃ i : Nat, i ≤ 4 ∧ iv = .int .i64 (i : Int) ∧ Own wr X (.slice (some ⟨X, 0, none⟩) 16 16) (mid (4 * i) (rmix l fs) (zs 16)) ∧ Below X w wr) (fun iv _ => 4 - (intOf iv).toNat)
 case atStart => exact ⟨0, by omega, rfl, by rw [Nat.mul_zero, mid_zero]; exact HH.out.2.2.2.2.1, HH.out.2.2.2.2.2⟩
 case round =>
  obtain ⟨i, hi, rfl, hO, hB⟩ := hrel
  by_cases hlt : i < 4
  ·have hq : (i : Int) < 4 := by omega
   have HO := Lib.hid (And.intro hO hB)
   clear hO hB
   go_wp2_with fail
   go_loopw [7] (fun rv wz => ∃ r : Nat, r ≤ 4 ∧ rv = .int .i64 (r : Int) ∧ Own wz X (.slice (some ⟨X, 0, none⟩) 16 16) (mid (4 * i + r) (rmix l fs) (zs 16)) ∧ Below X w wz) (fun rv _ => 4 - (intOf rv).toNat)
   case atStart => exact ⟨0, by omega, rfl, HO.out.1, HO.out.2⟩
   case round =>
    obtain ⟨r, hr, rfl, hO, hB⟩ := hrel
    clear HO
    by_cases hrlt : r < 4
    ·have hrq : (r : Int) < 4 := by omega
     have HO := Lib.hid (And.intro hO hB)
     clear hO hB
     go_wp2_with fail
     go_loopw [8, 9] (fun xv kv wy => ∃ k : Nat, k ≤ 4 ∧ kv = .int .i64 (k : Int) ∧ xv = B (mixB l fs (4 * i) r k) ∧ Own wy X (.slice (some ⟨X, 0, none⟩) 16 16) (mid (4 * i + r) (rmix l fs) (zs 16)) ∧ Below X w wy) (fun _ kv _ => 4 - (intOf kv).toNat)
     case atStart => exact ⟨0, by omega, rfl, rfl, HO.out.1, HO.out.2⟩
     case round =>
      obtain ⟨k, hk, rfl, rfl, hO, hB⟩ := hrel
      clear HO
      by_cases hklt : k < 4
      ·have hkq : (k : Int) < 4 := by omega
       obtain ⟨x, hx⟩ := at16 l HH.out.2.2.1 (4 * i + k) (by omega)
       obtain ⟨p, hp⟩ : ∃ p, p = (k + 4 - r) % 4 := ⟨_, rfl⟩
       have hp4 : p < 4 := by omega
       obtain ⟨f, hf⟩ := at4 fs HH.out.2.2.2.1 p hp4
       have y2 : wr.cell? ⟨bl, ol + (4 * i + k), none⟩ = some (B x) := by rw [hB.cell (p := ⟨bl, ol + (4 * i + k), none⟩) hblX]; exact HH.out.1.2 _ x hx
       have y3 : wr.cell? ⟨bf, of_ + p, none⟩ = some (B f) := by rw [hB.cell (p := ⟨bf, of_ + p, none⟩) hbfX]; exact HH.out.2.1.2 _ f hf
       have g0 : IntKind.i64.wrap ((k : Int) - r) = (k : Int) - r := IntWalk.i64_in _ (by omega)
       have g1 : IntKind.i64.wrap ((k : Int) - r + 4) = (k : Int) - r + 4 := IntWalk.i64_in _ (by omega)
       have g2 : ((k : Int) - r + 4).tmod 4 = (p : Int) := by rw [Int.tmod_eq_emod_of_nonneg (by omega)]; omega
       have g2' : ((k : Int) - r + 4) % 4 = (p : Int) := by omega
       have g3 : (p : Int) < 4 := by omega
       have g5 : (4 : Int) * i + k < 16 := by omega
       have g6 : IntKind.i64.wrap ((4 : Int) * i + k) = (4 : Int) * i + k := IntWalk.i64_in _ (by omega)
       have g6' : IntKind.i64.wrap ((4 : Int) * i) = (4 : Int) * i := IntWalk.i64_in _ (by omega)
       have g7 : ((4 : Int) * i + k).toNat = 4 * i + k := by omega
       have g8 : (0 : Int) ≤ 4 * i + k := by omega
       have g9 : (4 : Int) * i + k < ca := by omega
       have g10 : (p : Int) < cc := by omega
       have hnew : mixB l fs (4 * i) r (k + 1) = mixB l fs (4 * i) r k ^^^ gm x f := by
        show mixB l fs (4 * i) r k ^^^ gm (l.getD (4 * i + k) 0) (fs.getD ((k + 4 - r) % 4) 0) = _
        rw [← hp, List.getD_eq_getElem?_getD, hx, List.getD_eq_getElem?_getD, hf]; rfl
       have HB := Lib.hid (And.intro hO (And.intro hB hnew))
       generalize mixB l fs (4 * i) r k = Z at *
       clear hO hB hnew hx hf hp
       go_wp2_with fail
       go_still_tail 18, (by kernel_rfl)
       still_call (rtimes_still x f _)
       repeat still_step
       try refine wpStill_nil ?_
       go_wp2_with fail
       go_roundw
       case rel => exact ⟨k + 1, by omega, by go_num, by rw [HB.out.2.2], HB.out.1, HB.out.2.1.drew⟩
       case measure => simp [intOf]; omega
      ·obtain rfl : k = 4 := by omega
       have hkq : ¬ ((4 : Int) < 4) := by omega
       obtain ⟨z, hz⟩ := at16 (mid (4 * i + r) (rmix l fs) (zs 16)) hO.len.symm (4 * i + r) (by omega)
       have y0 := hO.cell _ z hz
       have y1 := hO.frozen (4 * i + r)
       have g5 : (4 : Int) * i + r < 16 := by omega
       have g6 : IntKind.i64.wrap ((4 : Int) * i + r) = (4 : Int) * i + r := IntWalk.i64_in _ (by omega)
       have g6' : IntKind.i64.wrap ((4 : Int) * i) = (4 : Int) * i := IntWalk.i64_in _ (by omega)
       have g7 : ((4 : Int) * i + r).toNat = 4 * i + r := by omega
       have g8 : (0 : Int) ≤ 4 * i + r := by omega
       have hat := rmix_at l fs (4 * i + r) (by omega)
       rw [show (4 * i + r) / 4 = i by omega, show (4 * i + r) % 4 = r by omega] at hat
       have HB := Lib.hid (And.intro hO (And.intro hB hat))
       generalize mixB l fs (4 * i) r 4 = Z at *
       clear hO hB hat hz hk hklt
       go_wp2_with fail
       have h1 := HB.out.1.set_ (4 * i + r) Z (by omega)
       rw [mid_set _ _ _ _ HB.out.2.2 (by rw [zs_len]; omega)] at h1
       have hT : Turn [X] wr (wr.setCell ⟨X, 4 * i + r, none⟩ (B Z)) := (Turn.refl _ _).setCell (p := ⟨X, 4 * i + r, none⟩) (.inl (by simp)) _
       go_roundw
       case rel => exact ⟨r + 1, by omega, by go_num, h1, below_turn HB.out.2.1 hT (by simp) (by rw [← hX]; exact HB.out.2.1.size)⟩
       case measure => simp [intOf]; omega
    ·obtain rfl : r = 4 := by omega
     have hrq : ¬ ((4 : Int) < 4) := by omega
     have HB := Lib.hid (And.intro hO hB)
     clear hO hB hr hrlt
     go_wp2_with fail
     go_roundw
     case rel => exact ⟨i + 1, by omega, by go_num, by rw [Nat.mul_add]; exact HB.out.1, HB.out.2⟩
     case measure => simp [intOf]; omega
  ·obtain rfl : i = 4 := by omega
   have hq : ¬ ((4 : Int) < 4) := by omega
   rw [mid_all _ _ 16 (rmix_len l fs) (zs_len 16)] at hO
   have HB := Lib.hid (And.intro hO hB)
   clear hO hB hi hlt
   go_wp2_with fail
   go_ret
   exact ⟨rfl, HB.out.1, HB.out.2⟩
set_option maxRecDepth 100000 in
set_option maxHeartbeats 4000000 in
theorem rdec_any (c kb R cap g1 g2 : Nat) (ks : List UInt8) (A : Option Addr) (cb : Nat) (l : List UInt8) (w : World) (h : RCip w c kb R cap g1 g2 ks) (hr : Rd w A 16 cb l) :
  Calls Tryz.prog 47 #[.pointer (some ⟨c, 0, none⟩), .slice A 16 cb] w fun e w' => ∃ g : Nat, e = .returned (.slice (some ⟨g, 0, none⟩) 16 16) ∧ Own w' w.heap.size (.slice (some ⟨g, 0, none⟩) 16 16) (decL ks R l) ∧ Below w.heap.size w w' := by
 have hR1 : 11 ≤ R := h.2.2.2.1
 have hR2 : R ≤ 15 := h.2.2.2.2.1
 have hcap : R ≤ cap := h.2.2.2.2.2.1
 have hR2' : (R : Int) ≤ 15 := by omega
 have hR1' : (11 : Int) ≤ R := by omega
 obtain ⟨X, hX⟩ : ∃ X, w.heap.size = X := ⟨_, rfl⟩
 have hin : ∀ W, Below X w W → W.cell? ⟨c, 0, none⟩ = some (.slice (some ⟨kb, 0, none⟩) R cap) ∧ W.cell? ⟨c, 2, none⟩ = some (.slice (some ⟨g2, 0, none⟩) 256 256) := fun W hb => by
  have h1 := (h.below (by rw [hX]; exact hb)).1
  exact ⟨by rw [h1.cell 0]; rfl, by rw [h1.cell 2]; rfl⟩
 have hkey : ∀ W i, i < R → Below X w W → ∃ gk o, W.cell? ⟨kb, i, none⟩ = some (.slice (some ⟨gk, o, none⟩) 16 16) ∧ Rd W (some ⟨gk, o, none⟩) 16 16 (key ks i) := fun W i hi hb => (h.below (by rw [hX]; exact hb)).2.2.2.2.2.2.1 i hi
 have hbox : ∀ W, Below X w W → Rd W (some ⟨g2, 0, none⟩) 256 256 invL := fun W hb => (h.below (by rw [hX]; exact hb)).2.2.2.2.2.2.2.2
 obtain ⟨z0, z1⟩ := hin w (Below.refl _ _)
 have HI := Lib.hid (And.intro hin (And.intro hkey hbox))
 have hlen : l.length = 16 := hr.1.symm
 have hksl := h.2.2.1
 have HL := Lib.hid (And.intro hlen (And.intro hksl hr))
 have z5 : (0 : Int) ≤ R := by omega
 have q4 : IntKind.i64.wrap ((R : Int) - 1) = (R : Int) - 1 := IntWalk.i64_in _ (by omega)
 clear hin hkey hbox h hr hlen hksl
 rw [hX]
 go_enter Tryz.func47, Tryz.ntmps47
 go_wp2_with fail
 clear z0 z1
 go_loopw [6, 7] (fun xv iv wr => ∃ (i : Nat) (Ax : Option Addr) (cx : Nat) (s : List UInt8), i < R ∧ xv = .slice Ax 16 cx ∧ iv = .int .i64 (i : Int) ∧ Rd wr Ax 16 cx s ∧ decF ks R i s = decL ks R l ∧ Below X w wr) (fun _ iv _ => (intOf iv).toNat)
 case atStart => exact ⟨R - 1, A, cb, l, by omega, rfl, by go_num, HL.out.2.2, rfl, Below.refl _ _⟩
 case round =>
  obtain ⟨i, Ax, cx, s, hi2, rfl, rfl, hx, hd, hB⟩ := hrel
  obtain ⟨gq, oq, k0, k1⟩ := HI.out.2.1 wr i hi2 hB
  obtain ⟨u0, u1⟩ := HI.out.1 wr hB
  have hsl : s.length = 16 := hx.1.symm
  have hkl := key_len ks R i HL.out.2.1 hi2
  have hxo := rxor_any _ _ _ _ _ _ wr hx k1
  have hs : X ≤ wr.heap.size := by rw [← hX]; exact hB.size
  have HXo := Lib.hid hxo
  rcases i with _ | i
  ·have hq : ¬ ((1 : Int) ≤ ((0 : Nat) : Int)) := by omega
   have HS := Lib.hid (And.intro hd hB)
   clear hx hd hB k1 hxo hsl hkl hi2
   go_wp2_with (go_at_call 78; go_must (refine HXo.out.mono ?_); rintro e w5 ⟨rfl, ho5, hb5⟩; have H5 := Lib.hid (And.intro ho5 hb5); clear ho5 hb5)
   go_ret
   exact ⟨_, rfl, by rw [← HS.out.1]; exact H5.out.1.mono hs, HS.out.2.trans (H5.out.2.mono hs)⟩
  ·have hq : (1 : Int) ≤ (i : Int) + 1 := by omega
   have hiR : (i : Int) + 1 < R := by omega
   have hxl := xorL_len _ _ 16 hsl hkl
   have hdn : decF ks R (i + 1) s = decF ks R i (decN (decM R (i + 1) (xorL s (key ks (i + 1)))) 16) := rfl
   generalize hs1 : xorL s (key ks (i + 1)) = s1 at *
   have HS := Lib.hid (And.intro (hdn.symm.trans hd) (And.intro hB (And.intro hxl hi2)))
   clear hx hd hB k1 hxo hsl hkl hi2 hxl hdn hs1
   go_upto_if 33 with (go_at_call 78; go_must (refine HXo.out.mono ?_); rintro e w5 ⟨rfl, ho5, hb5⟩; have H5 := Lib.hid (And.intro ho5 hb5); clear ho5 hb5)
   have hB5 := HS.out.2.1.trans (H5.out.2.mono hs)
   have HY := Lib.hid (And.intro (H5.out.1.mono hs) hB5)
   clear hB5
   go_cut [8] from 18 to 59 (fun yv wx => ∃ gy, yv = .slice (some ⟨gy, 0, none⟩) 16 16 ∧ Own wx X (.slice (some ⟨gy, 0, none⟩) 16 16) (decM R (i + 1) s1) ∧ Below X w wx)
   case first =>
    by_cases hm : i + 1 < R - 1
    ·have hm2 : (i : Int) + 1 < (R : Int) - 1 := by omega
     have hm' : decide ((i : Int) + 1 < (R : Int) - 1) = true := decide_eq_true hm2
     obtain ⟨wf, hwf⟩ : ∃ wf, w5.alloc (.cells #[.int .u8 14, .int .u8 11, .int .u8 13, .int .u8 9] 5) = wf := ⟨_, rfl⟩
     have hF : Rd wf (some ⟨w5.heap.size, 0, none⟩) 4 4 [14, 11, 13, 9] := by rw [← hwf]; exact rd_lit (l2 := [14, 11, 13, 9]) rfl rfl (by omega)
     have hyf : Rd wf (some ⟨wr.heap.size, 0, none⟩) 16 16 s1 := by rw [← hwf]; exact (HY.out.1.alloc_ _).rd
     have hBf : Below X w wf := by rw [← hwf]; exact HY.out.2.alloc (by rw [← hX]; exact HY.out.2.size) _
     have hmx := rmix_any _ _ _ _ _ _ wf hyf hF
     rw [rmix_eq _ _ _ _ _ HS.out.2.2.1] at hmx
     have HM := Lib.hid (And.intro hmx hBf)
     have hdm : decM R (i + 1) s1 = mixN s1 [14, 11, 13, 9] 4 := by unfold decM; rw [if_pos hm]
     have HDM := Lib.hid hdm
     clear hmx hdm hF hyf hBf
     go_wp2_with (go_at_call 79; go_must (refine HM.out.1.mono ?_); rintro e w4 ⟨rfl, ho4, hb4⟩; have H4 := Lib.hid (And.intro ho4 hb4); clear ho4 hb4)
     go_meet
     case rel =>
      have hs2 : X ≤ wf.heap.size := by rw [← hX]; exact HM.out.2.size
      exact ⟨_, rfl, by rw [HDM.out]; exact H4.out.1.mono hs2, HM.out.2.trans (H4.out.2.mono hs2)⟩
    ·have hm2 : ¬ ((i : Int) + 1 < (R : Int) - 1) := by omega
     have hm' : decide ((i : Int) + 1 < (R : Int) - 1) = false := decide_eq_false hm2
     have hdm : decM R (i + 1) s1 = s1 := by unfold decM; rw [if_neg hm]
     have HDM := Lib.hid hdm
     clear hdm
     go_wp2_with fail
     go_meet
     case rel => exact ⟨_, rfl, by rw [HDM.out]; exact HY.out.1, HY.out.2⟩
   case rest =>
    obtain ⟨gy, rfl, hy2, hB2⟩ := hcut
    have hs2l : (decM R (i + 1) s1).length = 16 := decM_len _ _ _ HS.out.2.2.1
    have hdd := HS.out.1
    generalize decM R (i + 1) s1 = s2 at *
    have hmk := Tryz.prog_make 16 (by omega) wc
    rw [show ((16 : Nat) : Int) = 16 from rfl] at hmk
    obtain ⟨wd, hwd⟩ : ∃ wd, wc.alloc (.cells (madeCells #[.int .u8 0] 16) 5) = wd := ⟨_, rfl⟩
    have hOy := Own.made wc 16 (by unfold maxLen; omega)
    rw [hwd] at hmk hOy
    have hBd : Below X w wd := by rw [← hwd]; exact hB2.alloc (by rw [← hX]; exact hB2.size) _
    have hXc : X ≤ wc.heap.size := by rw [← hX]; exact hB2.size
    have hgl := (hy2.lt (g := gy) rfl).2
    have hyd : Own wd X (.slice (some ⟨gy, 0, none⟩) 16 16) s2 := by rw [← hwd]; exact hy2.alloc_ _
    generalize wc.heap.size = Y at *
    have HR := Lib.hid (And.intro hBd (And.intro hyd (And.intro hOy (And.intro hs2l hdd))))
    clear hy2 hB2 hBd hyd hOy hs2l hdd hwd HY H5 u0 u1 k0
    go_wp2_with fail
    clear hmk
    go_loopw [9] (fun kv wz => ∃ k : Nat, k ≤ 16 ∧ kv = .int .i64 (k : Int) ∧ Own wz Y (.slice (some ⟨Y, 0, none⟩) 16 16) (decN s2 k) ∧ Turn [Y] wd wz) (fun kv _ => 16 - (intOf kv).toNat)
    case atStart => exact ⟨0, by omega, rfl, HR.out.2.2.1, Turn.refl _ _⟩
    case round =>
     obtain ⟨k, hk, rfl, hA, hT⟩ := hrel
     have hBz := below_turn HR.out.1 hT (by simp; exact hXc) (by rw [← hX]; exact HR.out.1.size)
     have hyz := HR.out.2.1.turn hT (fun q hq hm => by cases hq; simp at hm; omega)
     by_cases hklt : k < 16
     ·have hkq : (k : Int) < 16 := by omega
      obtain ⟨u0, u1⟩ := HI.out.1 wr hBz
      obtain ⟨m, hm⟩ : ∃ m, m = k % 4 := ⟨_, rfl⟩
      obtain ⟨p, hp⟩ : ∃ p, p = shp k := ⟨_, rfl⟩
      have hp' : p = (k + k % 4 * 4) % 16 := hp
      have hp16 : p < 16 := by omega
      obtain ⟨x, hxx⟩ := at16 s2 HR.out.2.2.2.1 k hklt
      have e3 : (x.toNat : Int) < 256 := by have := x.toNat_lt; omega
      have y1 := hyz.cell k x hxx
      have y2 : wr.cell? ⟨g2, x.toNat, none⟩ = some (B (si x)) := by
       have hbx := HI.out.2.2 wr hBz
       obtain ⟨b, off, e, ha⟩ := hbx.addr (by omega)
       cases e
       have := ha.2 x.toNat _ (inv_at x)
       rwa [Nat.zero_add] at this
      obtain ⟨z, hz⟩ := at16 (decN s2 k) hA.len.symm p hp16
      have y3 := hA.cell p z hz
      have y4 := hA.frozen p
      have g0 : (k : Int).tmod 4 = (m : Int) := by rw [Int.tmod_eq_emod_of_nonneg (by omega)]; omega
      have g0' : (k : Int) % 4 = (m : Int) := by omega
      have g3 : IntKind.i64.wrap (4 * (m : Int)) = 4 * (m : Int) := IntWalk.i64_in _ (by omega)
      have g2 : IntKind.i64.wrap ((k : Int) + 4 * (m : Int)) = (k : Int) + 4 * (m : Int) := IntWalk.i64_in _ (by omega)
      have g6 : ((k : Int) + 4 * (m : Int)).tmod 16 = (p : Int) := by rw [Int.tmod_eq_emod_of_nonneg (by omega)]; omega
      have g6' : ((k : Int) + 4 * (m : Int)) % 16 = (p : Int) := by omega
      have g4 : (p : Int) < 16 := by omega
      have hnew : decN s2 (k + 1) = (decN s2 k).set p (si x) := by
       show (decN s2 k).set (shp k) (si (s2.getD k 0)) = _
       rw [← hp, List.getD_eq_getElem?_getD, hxx]; rfl
      have HB := Lib.hid (And.intro hA (And.intro hT hnew))
      clear hA hT hBz hyz hxx hz hp hp' hm hnew
      go_wp2_with fail
      go_still_tail 18, (by kernel_rfl)
      go_wp2_with fail
      have h1 := HB.out.1.set_ p (si x) hp16
      go_roundw
      case rel => exact ⟨k + 1, by omega, by go_num, by rw [HB.out.2.2]; exact h1, (HB.out.2.1.setCell (p := ⟨Y, p, none⟩) (.inl (by simp)) _).drew⟩
      case measure => simp [intOf]; omega
     ·obtain rfl : k = 16 := by omega
      have hkq : ¬ ((16 : Int) < 16) := by omega
      have HB := Lib.hid (And.intro hA hBz)
      clear hA hT hBz hyz hk hklt
      go_wp2_with fail
      have hfin : i < R := by have := HS.out.2.2.2; omega
      go_roundw
      case rel => exact ⟨i, some ⟨Y, 0, none⟩, 16, decN s2 16, hfin, rfl, by go_num, HB.out.1.rd, HR.out.2.2.2.2, HB.out.2⟩
      case measure => first | (simp [intOf]; done) | (simp [intOf]; omega)
def keyV (g i : Nat) : Value := .slice (some ⟨g, 16 * i, none⟩) 16 16
def keysV (g R : Nat) : List Value := (List.range R).map (keyV g)
theorem keysV_at (g R i : Nat) (h : i < R) : (keysV g R)[i]? = some (keyV g i) := by unfold keysV; rw [List.getElem?_map, List.getElem?_range h]; rfl
theorem keysV_succ (g R : Nat) : keysV g (R + 1) = keysV g R ++ [keyV g R] := by simp [keysV, List.range_succ]
theorem Tryz.rowKeys : RowT Tryz.prog 45 32 (.slice none 0 0) 1 24 := ⟨Tryz.underlying45, by kernel_rfl, by kernel_rfl, by omega⟩
def RNew (w : World) (l : List UInt8) (e : Ending) (w' : World) : Prop := ∃ c kb R cap g1 g2 : Nat, e = .returned (.pointer (some ⟨c, 0, none⟩)) ∧ RCip w' c kb R cap g1 g2 (rks l) ∧ Below w.heap.size w w'
theorem gm_two (x : UInt8) : gm x 2 = tw x := by revert x; refine all8 ?_; decide +kernel
set_option maxRecDepth 100000 in
set_option maxHeartbeats 4000000 in
theorem rnew_any (A : Option Addr) (n0 cp : Nat) (l : List UInt8) (w : World) (h : Rd w A n0 cp l) (hl : l.length = 16 ∨ l.length = 24 ∨ l.length = 32) :
  Calls Tryz.prog 46 #[.slice A n0 cp] w (RNew w l) := by
 have hn0 := h.1
 have HR := Lib.hid h
 clear h
 subst hn0
 generalize hL : l.length = n0 at *
 obtain ⟨n, hn⟩ : ∃ n, n = n0 / 4 := ⟨_, rfl⟩
 have hnn : n0 = 4 * n := by omega
 have hn8 : n = 4 ∨ n = 6 ∨ n = 8 := by omega
 have hdiv : ((n0 : Int) / 4) = (n : Int) := by omega
 have hdiv' : (n0 : Int).tdiv 4 = (n : Int) := by rw [Int.tdiv_eq_ediv_of_nonneg (by omega)]; omega
 have HN := Lib.hid (And.intro hl (And.intro hn (And.intro hnn hn8)))
 have hle : n ≤ 8 := by omega
 have hge : 4 ≤ n := by omega
 have hle' : (n : Int) ≤ 8 := by omega
 have hge' : (4 : Int) ≤ n := by omega
 have hn32 : (n0 : Int) ≤ 32 := by omega
 have hn16 : (16 : Int) ≤ n0 := by omega
 clear hl hn hnn hn8
 go_enter Tryz.func46, Tryz.ntmps46
 go_upto_region 2 with (fail)
 go_cut [25] (fun v wx => v = .bool false ∧ w = wx)
 case first =>
  rcases HN.out.1 with h | h | h
  ·have h1 : (n0 : Int) = 16 := by omega
   go_wp2
   go_meet
   case rel => exact ⟨rfl, rfl⟩
  ·have h1 : (n0 : Int) = 24 := by omega
   go_wp2
   go_meet
   case rel => exact ⟨rfl, rfl⟩
  ·have h1 : (n0 : Int) = 32 := by omega
   go_wp2
   go_meet
   case rel => exact ⟨rfl, rfl⟩
 obtain ⟨rfl, rfl⟩ := hcut
 go_wp2_with (first | (go_at_call 76; refine (boxes_any w).mono ?_; rintro e w1 ⟨g1, g2, rfl, hgne, hb1, hb2, hB1⟩; have H1 := Lib.hid (And.intro hb1 (And.intro hb2 (And.intro hB1 hgne))); clear hb1 hb2 hB1 hgne) | (at_builtin; go_must (refine wp_app2 (.const (.slice none 0 0)) (.tmp 33) w1.heap.size (.slice none 0 0) [] (Own.nil _ _) (Nat.le_refl _) A n0 cp l (HR.out.below H1.out.2.2.1) (by have := HR.out.2.2.1; unfold maxLen at this; simp; omega) rfl rfl rfl rfl ?_); intro A1 m1 c1 w2 hi1 hG; have H2 := Lib.hid hG; clear hG))
 go_loopw [7, 8] (fun sv rv wr => ∃ (m : Nat) (A' : Option Addr) (n' c' : Nat), m ≤ 3 * n + 28 ∧ sv = .slice A' n' c' ∧ rv = B (kW n l m).2 ∧ Own wr w1.heap.size (.slice A' n' c') (kW n l m).1 ∧ Below w1.heap.size w1 wr) (fun sv _ _ => 400 - sliceLen_q sv)
 case atStart => exact ⟨0, A1, m1, c1, by omega, rfl, rfl, H2.out.own, H2.out.below⟩
 case round =>
  obtain ⟨m, A', n', c', hm, rfl, rfl, hO, hB⟩ := hrel
  have hWl := kW_len n l (by omega) (by have := HN.out.2.2.1; omega) m
  have hn4 : n' = 4 * (n + m) := by have := hO.len; omega
  by_cases hlt : m < 3 * n + 28
  ·have hm1 : ((kW n l (m + 1)).1, (kW n l (m + 1)).2) = ((kW n l m).1 ++ kAdd n (n + m) (kW n l m).2 (kW n l m).1, kRc n (n + m) (kW n l m).2) := rfl
   have HM1 := Lib.hid hm1
   clear hm1
   generalize hg1 : (kW n l (m + 1)).1 = W1 at *
   generalize hg2 : (kW n l (m + 1)).2 = rc1 at *
   have HG := Lib.hid (And.intro hg1 hg2)
   clear hg1 hg2
   generalize (kW n l m).1 = W at *
   generalize (kW n l m).2 = rc at *
   obtain ⟨i, hi⟩ : ∃ i, i = n + m := ⟨_, rfl⟩
   rw [← hi] at HM1 hWl hn4
   have HI := Lib.hid (And.intro hi (And.intro hm hlt))
   have q2 : (i : Int) < 60 := by omega
   have q3 : (4 : Int) ≤ i := by omega
   have q5 : i < 60 := by omega
   have q6 : 4 ≤ i := by omega
   have q1 : (4 : Int) * i < 16 * ((n : Int) + 6 + 1) := by omega
   obtain ⟨g, rfl⟩ : ∃ g, A' = some ⟨g, 0, none⟩ := by
    obtain ⟨g, c, e⟩ := hO.form (fun e => by injection e with _ e _; omega)
    cases e
    exact ⟨g, rfl⟩
   subst hn4
   clear hi hm hlt
   have hcap := hO.blk.2.1
   have hcapm := hO.blk.2.2.1
   unfold maxLen at hcapm
   have q7 : (4 : Int) * i ≤ c' := by omega
   have q8 : 4 * i - (4 * i - 4) = 4 := by omega
   have q9 : ¬ c' = 4 * i - 4 := by omega
   have q10 : (0 : Int) ≤ 4 * (i : Int) - 4 := by omega
   have q11 : IntKind.i64.wrap (4 * (i : Int) - 4) = 4 * (i : Int) - 4 := IntWalk.i64_in _ (by omega)
   have q12 : (4 * (i : Int) - 4).toNat = 4 * i - 4 := by omega
   have hd : ∀ j, 4 * i - 4 + j < 4 * i → W[4 * i - 4 + j]? = some (W.getD (4 * i - 4 + j) 0) := fun j hj => by
    rw [List.getD_eq_getElem?_getD, List.getElem?_eq_getElem (by omega)]; rfl
   have d0 := hd 0 (by omega)
   have d1 := hd 1 (by omega)
   have d2 := hd 2 (by omega)
   have d3 := hd 3 (by omega)
   clear hd
   have hti : kAdd n i rc W = List.zipWith (· ^^^ ·) ((W.drop (4 * (i - n))).take 4) (kT n i rc (W.getD (4 * i - 4 + 0) 0) (W.getD (4 * i - 4 + 1) 0) (W.getD (4 * i - 4 + 2) 0) (W.getD (4 * i - 4 + 3) 0)) := by
    unfold kAdd
    rw [show 4 * i - 4 + 0 = 4 * i - 4 by omega, show 4 * i - 4 + 1 = 4 * i - 3 by omega, show 4 * i - 4 + 2 = 4 * i - 2 by omega, show 4 * i - 4 + 3 = 4 * i - 1 by omega]
   generalize W.getD (4 * i - 4 + 0) 0 = t0 at *
   generalize W.getD (4 * i - 4 + 1) 0 = t1 at *
   generalize W.getD (4 * i - 4 + 2) 0 = t2 at *
   generalize W.getD (4 * i - 4 + 3) 0 = t3 at *
   have hcut := hO.rd.cut (k := 4 * i - 4) (by omega)
   rw [if_neg q9, q8] at hcut
   simp only [Option.map_some, Addr.add_mid, Nat.zero_add] at hcut
   have hdr : W.drop (4 * i - 4) = [t0, t1, t2, t3] := by
    refine List.ext_getElem? fun q => ?_
    rw [List.getElem?_drop]
    rcases q with _ | _ | _ | _ | q
    ·exact d0
    ·exact d1
    ·exact d2
    ·exact d3
    ·rw [List.getElem?_eq_none (by omega)]; rfl
   rw [hdr] at hcut
   have HTi := Lib.hid hti
   have HW := Lib.hid (And.intro hO (And.intro hB (And.intro hWl hcut)))
   clear hO hB hWl hti d0 d1 d2 d3 hcut hdr
   go_upto_if 52 with (at_builtin; go_must (refine wp_app2 (.const (.slice none 0 0)) (.tmp 45) wr.heap.size (.slice none 0 0) [] (Own.nil _ _) (Nat.le_refl _) _ 4 (c' - (4 * i - 4)) [t0, t1, t2, t3] HW.out.2.2.2 (by simp) rfl rfl rfl rfl ?_); intro Ax nx cx w3 hi3 hG; have H3 := Lib.hid hG; clear hG)
   have hnx : nx = 4 := by have := H3.out.len; simpa using this
   obtain ⟨gx, rfl⟩ : ∃ gx, Ax = some ⟨gx, 0, none⟩ := by
    obtain ⟨q, c, e⟩ := H3.out.own.form (fun e => by injection e with _ e _; omega)
    cases e
    exact ⟨q, rfl⟩
   subst hnx
   have hgl := (HW.out.1.lt (g := g) rfl).2
   have hgx := (H3.out.own.lt (g := gx) rfl).1
   have hcx := H3.out.own.blk.2.1
   have hB3 := HW.out.2.1.trans (H3.out.below.mono HW.out.2.1.size)
   have hO3 := HW.out.1.below H3.out.below
   have hx3 := H3.out.own
   rw [List.nil_append] at hx3
   have hrc1 : rc1 = kRc n i rc := congrArg Prod.snd HM1.out
   have H4 := Lib.hid (And.intro hB3 (And.intro hO3 (And.intro hx3 hrc1)))
   clear hB3 hO3 hx3 hrc1 H3
   go_cut [8, 9] from 35 to 134 (fun rv xv wx => ∃ hx dx, rv = B rc1 ∧ xv = .slice (some ⟨hx, 0, none⟩) 4 dx ∧ hx ≠ g ∧ Rd wx (some ⟨hx, 0, none⟩) 4 dx (kT n i rc t0 t1 t2 t3) ∧ Own wx w1.heap.size (.slice (some ⟨g, 0, none⟩) (4 * i) c') W ∧ Below w1.heap.size w1 wx)
   case first =>
    obtain ⟨r, hr⟩ : ∃ r, r = i % n := ⟨_, rfl⟩
    have hmod : (4 * (i : Int)).tmod (n0 : Int) = 4 * (r : Int) := by
     have e : (4 * i) % n0 = 4 * r := by rw [HN.out.2.2.1, hr, Nat.mul_mod_mul_left]
     rw [Int.tmod_eq_emod_of_nonneg (by omega)]
     have := congrArg (Int.ofNat) e
     simpa using this
    have hmod' : (4 * (i : Int)) % (n0 : Int) = 4 * (r : Int) := by rw [← Int.tmod_eq_emod_of_nonneg (by omega)]; exact hmod
    have b0 := H4.out.2.2.1.cell 0 t0 rfl
    have b1 := H4.out.2.2.1.cell 1 t1 rfl
    have b2 := H4.out.2.2.1.cell 2 t2 rfl
    have b3 := H4.out.2.2.1.cell 3 t3 rfl
    have hbx := H1.out.1.below H4.out.1
    have x0 := hbx.cell _ _ (box_at t0)
    have x1 := hbx.cell _ _ (box_at t1)
    have x2 := hbx.cell _ _ (box_at t2)
    have x3 := hbx.cell _ _ (box_at t3)
    have e0 : (t0.toNat : Int) < 256 := by have := t0.toNat_lt; omega
    have e1 : (t1.toNat : Int) < 256 := by have := t1.toNat_lt; omega
    have e2 : (t2.toNat : Int) < 256 := by have := t2.toNat_lt; omega
    have e3 : (t3.toNat : Int) < 256 := by have := t3.toNat_lt; omega
    have hmk : ∀ (vs : List UInt8) (hv : vs.length = 4) (he : kT n i rc t0 t1 t2 t3 = vs), ∃ hx dx, (Value.slice (some ⟨w3.heap.size, 0, none⟩) 4 4) = .slice (some ⟨hx, 0, none⟩) 4 dx ∧ hx ≠ g ∧ Rd (w3.drew.alloc (.cells (vs.map B).toArray 5)) (some ⟨hx, 0, none⟩) 4 dx (kT n i rc t0 t1 t2 t3) ∧ Own (w3.drew.alloc (.cells (vs.map B).toArray 5)) w1.heap.size (.slice (some ⟨g, 0, none⟩) (4 * i) c') W ∧ Below w1.heap.size w1 (w3.drew.alloc (.cells (vs.map B).toArray 5)) := fun vs hv he => by
     have hg3 := (H4.out.2.1.lt (g := g) rfl).2
     refine ⟨w3.heap.size, 4, rfl, by omega, by rw [he]; exact rd_lit (w := w3.drew) rfl hv.symm (by omega), (show Own w3.drew _ _ _ from H4.out.2.1).alloc_ _, ?_⟩
     exact (H4.out.1.drew).alloc H4.out.1.size _
    have HMk := Lib.hid hmk
    have Hr1 := Lib.hid H4.out.2.2.2
    clear hmk hbx
    by_cases hr0 : r = 0
    ·have r1 : (4 * (r : Int) == 0) = true := by simp; omega
     have hk : kT n i rc t0 t1 t2 t3 = [sb t1 ^^^ rc, sb t2, sb t3, sb t0] := by unfold kT; rw [if_pos (by omega)]
     have hk2 : kRc n i rc = tw rc := by unfold kRc; rw [if_pos (by omega)]
     have HK := Lib.hid (And.intro (HMk.out _ rfl hk) hk2)
     have hT : ∀ w, Calls Tryz.prog 77 #[B rc, .int .u8 2] w fun e w' => e = .returned (B (tw rc)) ∧ w = w' := fun w => by have := rtimes_any rc 2 w; rw [gm_two] at this; exact this
     have HT := Lib.hid hT
     have r2 : (4 * (r : Int)) = 0 := by omega
     clear hk hk2 hT
     go_wp2_with fail
     go_still_tail 26, (by kernel_rfl)
     go_wp2_with (go_at_call 77; go_must (refine (HT.out _).mono ?_); rintro e wx ⟨rfl, rfl⟩)
     go_meet
     case rel =>
      obtain ⟨hx, dx, a1, a2, a3, a4, a5⟩ := HK.out.1
      exact ⟨hx, dx, by rw [Hr1.out, HK.out.2], a1, a2, a3, a4, a5⟩
    ·have r1 : (4 * (r : Int) == 0) = false := by simp; omega
     have r2 : ¬ (4 * (r : Int)) = 0 := by omega
     have hk2 : kRc n i rc = rc := by unfold kRc; rw [if_neg (by omega)]
     have hg3 := (H4.out.2.1.lt (g := g) rfl).2
     have hsame : kT n i rc t0 t1 t2 t3 = [t0, t1, t2, t3] → ∃ hx dx, (Value.slice (some ⟨gx, 0, none⟩) 4 cx) = .slice (some ⟨hx, 0, none⟩) 4 dx ∧ hx ≠ g ∧ Rd w3 (some ⟨hx, 0, none⟩) 4 dx (kT n i rc t0 t1 t2 t3) ∧ Own w3 w1.heap.size (.slice (some ⟨g, 0, none⟩) (4 * i) c') W ∧ Below w1.heap.size w1 w3 := fun hk => ⟨gx, cx, rfl, by omega, by rw [hk]; exact H4.out.2.2.1.rd, H4.out.2.1, H4.out.1⟩
     have HSm := Lib.hid hsame
     clear hsame
     by_cases h8 : n = 8
     ·have s1 : (n0 : Int) = 32 := by have := HN.out.2.2.1; omega
      have s2 : ((n0 : Int) == 32) = true := by simp; omega
      by_cases h4 : r = 4
      ·have s3 : (4 * (r : Int)) = 16 := by omega
       have s4 : (4 * (r : Int) == 16) = true := by simp; omega
       have hk : kT n i rc t0 t1 t2 t3 = [sb t0, sb t1, sb t2, sb t3] := by unfold kT; rw [if_neg (by omega), if_pos ⟨by omega, by omega⟩]
       have HK := Lib.hid (And.intro (HMk.out _ rfl hk) hk2)
       clear hk hk2 s1 s3 h8 h4
       go_wp2_with fail
       go_still_tail 24, (by kernel_rfl)
       go_wp2_with fail
       go_meet
       case rel =>
        obtain ⟨hx, dx, a1, a2, a3, a4, a5⟩ := HK.out.1
        exact ⟨hx, dx, by rw [Hr1.out, HK.out.2], a1, a2, a3, a4, a5⟩
      ·have s3 : ¬ (4 * (r : Int)) = 16 := by omega
       have s4 : (4 * (r : Int) == 16) = false := by simp; omega
       have hk : kT n i rc t0 t1 t2 t3 = [t0, t1, t2, t3] := by unfold kT; rw [if_neg (by omega), if_neg (by omega)]
       have HK := Lib.hid (And.intro (HSm.out hk) hk2)
       clear hk hk2 s1 h8 h4
       go_wp2_with fail
       go_meet
       case rel =>
        obtain ⟨hx, dx, a1, a2, a3, a4, a5⟩ := HK.out.1
        exact ⟨hx, dx, by rw [Hr1.out, HK.out.2], a1, a2, a3, a4, a5⟩
     ·have s1 : ¬ (n0 : Int) = 32 := by have := HN.out.2.2.1; omega
      have s2 : ((n0 : Int) == 32) = false := by simp; omega
      have hk : kT n i rc t0 t1 t2 t3 = [t0, t1, t2, t3] := by unfold kT; rw [if_neg (by omega), if_neg (by have := HN.out.2.2.2; omega)]
      have HK := Lib.hid (And.intro (HSm.out hk) hk2)
      clear hk hk2
      go_wp2_with fail
      go_meet
      case rel =>
       obtain ⟨hx, dx, a1, a2, a3, a4, a5⟩ := HK.out.1
       exact ⟨hx, dx, by rw [Hr1.out, HK.out.2], a1, a2, a3, a4, a5⟩
   case rest =>
    obtain ⟨hx, dx, rfl, rfl, hne, hX, hO, hB⟩ := hcut
    obtain ⟨T, hT⟩ : ∃ T, T = kT n i rc t0 t1 t2 t3 := ⟨_, rfl⟩
    rw [← hT] at hX
    obtain ⟨K, hK⟩ : ∃ K, K = kAdd n i rc W := ⟨_, rfl⟩
    have hTl : T.length = 4 := by rw [hT]; exact kT_len _ _ _ _ _ _ _
    have hKl : K.length = 4 := by rw [hK]; exact kAdd_len _ _ _ _ (by rw [HW.out.2.2.1]; omega)
    have hKk : ∀ j x y, T[j]? = some x → W[4 * (i - n) + j]? = some y → K[j]? = some (y ^^^ x) := fun j x y hx hy => by
     have hj : j < 4 := by have := (List.getElem?_eq_some_iff.1 hx).1; omega
     rw [hK, HTi.out, ← hT, List.getElem?_zipWith, hx, List.getElem?_take, if_pos hj, List.getElem?_drop, hy]
    have HKA := Lib.hid (And.intro hTl (And.intro hKl (And.intro hKk hK)))
    have hdx := hX.2.1
    have HC := Lib.hid (And.intro hO (And.intro hB hX))
    clear hO hB hX hTl hKl hKk hK hT H4
    go_wp2_with fail
    go_loopw [7, 11] (fun sv jv wz => ∃ (j : Nat) (A2 : Option Addr) (n2 c2 : Nat), j ≤ 4 ∧ sv = .slice A2 n2 c2 ∧ jv = .int .i64 (j : Int) ∧ Own wz w1.heap.size (.slice A2 n2 c2) (W ++ K.take j) ∧ Below w1.heap.size w1 wz ∧ Rd wz (some ⟨hx, 0, none⟩) 4 dx T ∧ (Value.slice A2 n2 c2).ownBlock ≠ some hx) (fun _ jv _ => 4 - (intOf jv).toNat)
    case atStart => exact ⟨0, _, _, _, by omega, rfl, rfl, by simpa using HC.out.1, HC.out.2.1, HC.out.2.2, by simp [Value.ownBlock]; omega⟩
    case round =>
     obtain ⟨j, A2, n2, c2, hj, rfl, rfl, hO, hB, hX, hnx⟩ := hrel
     clear HC
     by_cases hjlt : j < 4
     ·have hq : (j : Int) < 4 := by omega
      obtain ⟨x, hxx⟩ := at4 T HKA.out.1 j hjlt
      obtain ⟨y, hy⟩ : ∃ y, W[4 * (i - n) + j]? = some y := ⟨_, List.getElem?_eq_getElem (by rw [HW.out.2.2.1]; have := HI.out.1; omega)⟩
      have hlen : (W ++ K.take j).length = 4 * i + j := by rw [List.length_append, List.length_take, HKA.out.2.1, HW.out.2.2.1]; omega
      have hn2 : n2 = 4 * i + j := by have := hO.len; omega
      obtain ⟨g2, rfl⟩ : ∃ g2, A2 = some ⟨g2, 0, none⟩ := by
       obtain ⟨g2, c, e⟩ := hO.form (fun e => by injection e with _ e _; omega)
       cases e
       exact ⟨g2, rfl⟩
      subst hn2
      have hnn := HN.out.2.2.1
      have hni : n ≤ i := by have := HI.out.1; omega
      have g1' : IntKind.i64.wrap (4 * (i : Int) + j) = 4 * (i : Int) + j := IntWalk.i64_in _ (by omega)
      have g2' : IntKind.i64.wrap (4 * (i : Int) + j - n0) = 4 * (i : Int) + j - n0 := IntWalk.i64_in _ (by omega)
      have g3 : (4 * (i : Int) + j - n0).toNat = 4 * (i - n) + j := by omega
      have g4 : (0 : Int) ≤ 4 * (i : Int) + j - n0 := by omega
      have g6 : (n0 : Int) ≤ 4 * (i : Int) + j := by omega
      have g5 : 4 * (i : Int) + j - n0 < 4 * (i : Int) + j := by omega
      have hF1 : ∀ wq, Tow w1.heap.size (.slice (some ⟨g2, 0, none⟩) (4 * i + j) c2) (W ++ K.take j) wr wq → wq.cell? ⟨g2, 4 * (i - n) + j, none⟩ = some (B y) := fun wq hq => hq.2.cell _ y (by rw [List.getElem?_append_left (by have := (List.getElem?_eq_some_iff.1 hy).1; omega)]; exact hy)
      have hF2 : ∀ wq, Tow w1.heap.size (.slice (some ⟨g2, 0, none⟩) (4 * i + j) c2) (W ++ K.take j) wr wq → wq.cell? ⟨hx, j, none⟩ = some (B x) := fun wq hq => by
       have h1 := hX.tow (fun ad had hm => by cases had; exact hnx (by simpa using hm)) hq
       obtain ⟨b, o, e, ha⟩ := h1.addr (by omega)
       cases e
       have := ha.2 j x hxx
       rwa [Nat.zero_add] at this
      have HF := Lib.hid (And.intro hF1 hF2)
      have hkj := HKA.out.2.2.1 j x y hxx hy
      have HO := Lib.hid (And.intro hO (And.intro hB (And.intro hX (And.intro hnx (And.intro hlen hkj)))))
      clear hO hB hX hnx hlen hkj hF1 hF2 hxx hy hnn hj
      go_wp2_with fail
      refine region_tow HO.out.1 (by kernel_rfl) (fun wd hHeld hSz => ?_)
      have HSz := Lib.hid hSz
      clear hSz
      refine tkS 0 hHeld ?_
      refine tkS 1 hHeld ?_
      refine tkS 2 hHeld ?_
      refine tkS 3 hHeld ?_
      refine tkS 4 hHeld ?_
      refine tkS 5 hHeld ?_
      refine tkS 6 hHeld ?_
      refine tkS 7 hHeld ?_
      refine tkS 8 hHeld ?_ (hy := by intro wq hSw; have y0 := HF.out.1 wq hSw; clear hSw; go_simp; try with_reducible rfl)
      refine tkS 9 hHeld ?_
      refine tkS 10 hHeld ?_
      refine tkS 11 hHeld ?_
      refine tkS 12 hHeld ?_ (hy := by intro wq hSw; have y1 := HF.out.2 wq hSw; clear hSw; go_simp; try with_reducible rfl)
      refine tkS 13 hHeld ?_
      refine wpAnyH_ready (rs := [14]) (by kernel_rfl) (by simp) ?_
      refine consL rfl (fun K1 hK => ?_) AllReadyH.nil
      go_simp
      refine hK.out _ _ (hHeld.alloc _) (fun hHeld => ?_)
      clear hK K1
      try simp only [Act.put, sA, sB, sC]
      refine wpAnyH_ready (rs := [15]) (by kernel_rfl) (by simp) ?_
      refine consL rfl (fun K2 hK => ?_) AllReadyH.nil
      rw [if_pos (by rfl)]
      refine op_app_keep2 (.tmp 119) (.tmp 133) rfl w1.heap.size (.slice (some ⟨g2, 0, none⟩) (4 * i + j) c2) (W ++ K.take j) rfl hHeld.2 (some ⟨wd.heap.size, 0, none⟩) 1 1 [y ^^^ x] rfl (rd_lit (l2 := [y ^^^ x]) rfl rfl (by omega)) (by rw [HO.out.2.2.2.2.1]; simp; omega) (Nat.le_trans HO.out.2.1.size hHeld.1.size) ?_
      intro A8 n8 c8 w8 hO8 hOl hg8 hb9
      have hb8 := hHeld.app hg8 hOl
      refine hK.out _ _ hb8 (fun hHeld => ?_)
      clear hK K2 hg8 hOl
      try simp only [Act.put, sA, sB, sC]
      have hnx8 : (Value.slice A8 n8 c8).ownBlock ≠ some hx := by
       rcases hb9 with e | e
       ·rw [e]; exact HO.out.2.2.2.1
       ·rw [e]; intro e2; injection e2 with e2; have h1 : hx < wr.heap.size := HO.out.2.2.1.lt _ rfl; have h2 := HSz.out; simp at e2; omega
      have H8 := Lib.hid (And.intro hO8 (And.intro hb8 hnx8))
      clear hO8 hb8 hnx8 hb9
      refine tkS 16 hHeld ?_
      refine wpAnyH_done (by kernel_rfl) ?_ _
      refine NoPanic.normal ?_
      clear hHeld
      go_wp2_with fail
      go_roundw
      case rel =>
       have h1 := H8.out.1
       rw [List.append_assoc, show K.take j ++ [y ^^^ x] = K.take (j + 1) by rw [List.take_add_one, HO.out.2.2.2.2.2]; rfl] at h1
       refine ⟨j + 1, A8, n8, c8, by omega, rfl, by go_num, h1, below_turn HO.out.2.1 H8.out.2.1.1 (fun t ht => (HO.out.1.lt (show _ = some t by simpa using ht)).1) HO.out.2.1.size, HO.out.2.2.1.tow (fun ad had hm => by cases had; exact HO.out.2.2.2.1 (by simpa using hm)) H8.out.2.1, H8.out.2.2⟩
      case measure => simp [intOf]; omega
     ·obtain rfl : j = 4 := by omega
      have hq : ¬ ((4 : Int) < 4) := by omega
      have hW1 : W1 = W ++ K.take 4 := by
       have := congrArg Prod.fst HM1.out
       rw [← HKA.out.2.2.2] at this
       rw [List.take_of_length_le (by rw [HKA.out.2.1]; omega)]
       exact this
      have hlw := hO.len
      rw [← hW1] at hO
      have HO := Lib.hid (And.intro hO hB)
      have hln : n2 = 4 * i + 4 := by rw [hlw, List.length_append, List.length_take, HKA.out.2.1, HW.out.2.2.1]; omega
      clear hO hB hX hnx hj hjlt hlw hW1
      have HLn := Lib.hid hln
      clear hln
      go_wp2_with fail
      have h60 := HI.out
      go_roundw
      case rel => exact ⟨m + 1, A2, n2, c2, by omega, rfl, by rw [HG.out.2], by rw [HG.out.1]; exact HO.out.1, HO.out.2⟩
      case measure => have := HLn.out; simp [sliceLen_q]; omega
  ·--EXIT
   have hme : m = 3 * n + 28 := by omega
   have hnn0 := HN.out.2.2.1
   subst hme
   have hks : (kW n l (3 * n + 28)).1 = rks l := by unfold rks; rw [hL, HN.out.2.1]
   rw [hks] at hO hWl
   have hWl' : (rks l).length = 16 * (n + 7) := by omega
   have hnW : n' = 16 * (n + 7) := by have := hO.len; omega
   obtain ⟨g, rfl⟩ : ∃ g, A' = some ⟨g, 0, none⟩ := by
    obtain ⟨g, c, e⟩ := hO.form (fun e => by injection e with _ e _; omega)
    cases e
    exact ⟨g, rfl⟩
   subst hnW
   have hcap := hO.blk.2.1
   have hcapm := hO.blk.2.2.1
   unfold maxLen at hcapm
   have r1 : ¬ (16 * ((n : Int) + 7) < 16 * ((n : Int) + 6 + 1)) := by omega
   have r2 : (16 : Int) * ((n : Int) + 7) ≤ c' := by omega
   obtain ⟨C, hCs⟩ : ∃ C, wr.heap.size = C := ⟨_, rfl⟩
   have hR1 := H1.out.1.below hB
   have hR2 := H1.out.2.1.below hB
   have hB0 := H1.out.2.2.1.trans (hB.mono H1.out.2.2.1.size)
   have hC0 : Blk (wr.alloc (.cells #[.slice none 0 0, .slice (some ⟨g1, 0, none⟩) 256 256, .slice (some ⟨g2, 0, none⟩) 256 256] 127)) C 127 #[.slice none 0 0, .slice (some ⟨g1, 0, none⟩) 256 256, .slice (some ⟨g2, 0, none⟩) 256 256] := by rw [← hCs]; exact Blk.new _ _ _
   have hB1 : Below C wr (wr.alloc (.cells #[.slice none 0 0, .slice (some ⟨g1, 0, none⟩) 256 256, .slice (some ⟨g2, 0, none⟩) 256 256] 127)) := by rw [← hCs]; exact (Below.refl _ _).alloc (Nat.le_refl _) _
   have HX := Lib.hid (And.intro hO (And.intro hR1 (And.intro hR2 (And.intro hB0 (And.intro hWl' (And.intro hC0 (And.intro hB1 hCs)))))))
   clear hO hB hWl hWl' hks hm hlt hR1 hR2 hB0 hC0 hB1 hCs H1 H2
   generalize g1 = h1 at *
   generalize g2 = h2 at *
   go_wp2_with fail
   rw [HX.out.2.2.2.2.2.2.2]
   go_loopw [13] (fun jv wz => ∃ (R : Nat) (kv : Value), R ≤ n + 7 ∧ jv = .int .i64 (R : Int) ∧ Blk wz C 127 #[kv, .slice (some ⟨h1, 0, none⟩) 256 256, .slice (some ⟨h2, 0, none⟩) 256 256] ∧ OwnR wz (C + 1) 32 1 kv R (keysV g R) ∧ Below C wr wz) (fun jv _ => n + 7 - (intOf jv).toNat)
   case atStart => exact ⟨0, .slice none 0 0, by omega, rfl, HX.out.2.2.2.2.2.1, OwnR.nil _ _ _ _, HX.out.2.2.2.2.2.2.1⟩
   case round w0 =>
    obtain ⟨R, kv, hR, rfl, hC, hK, hB⟩ := hrel
    have hCs := HX.out.2.2.2.2.2.2.2
    by_cases hlt : R < n + 7
    ·have s9 : (R : Int) ≤ (n : Int) + 6 := by omega
     have s1 : (16 : Int) * R + 16 ≤ 16 * ((n : Int) + 7) := by omega
     have s0 : IntKind.i64.wrap ((16 : Int) * R + 16) = (16 : Int) * R + 16 := IntWalk.i64_in _ (by omega)
     have s2 : (0 : Int) ≤ 16 * (R : Int) := by omega
     have s3 : (16 * (R : Int)).toNat = 16 * R := by omega
     have s4 : (16 * (R : Int) + 16).toNat = 16 * R + 16 := by omega
     have s5 : 16 * R + 16 - 16 * R = 16 := by omega
     have s6 : 16 * (R : Int) ≤ 16 * (R : Int) + 16 := by omega
     have s10 : IntKind.i64.wrap ((16 : Int) * R) = (16 : Int) * R := IntWalk.i64_in _ (by omega)
     have s11 : max ((16 : Int) * R + 16) 0 = (16 : Int) * R + 16 := by omega
     have s12 : (0 : Int) ≤ 16 * (R : Int) + 16 := by omega
     have s7 : (16 : Int) * R + 16 ≤ c' := by omega
     have s8 : ¬ 16 * R + 16 = 16 * R := by omega
     have hclt : C < wr.heap.size := hC.lt
     have HK := Lib.hid (And.intro hC (And.intro hK hB))
     have HCs := Lib.hid hCs
     clear hC hK hB hCs
     go_wp2_with fail
     have hCs := HCs.out
     refine region_turn (C :: kv.ownBlock.toList) (by kernel_rfl) (fun wd hOld hHeld hSz => ?_)
     have HO := Lib.hid hOld
     clear hOld
     have c0 : wd.cell? ⟨C, 0, none⟩ = some kv := by rw [(HK.out.1.below HO.out).cell 0]; rfl
     have f0 : wd.frozen? ⟨C, 0, none⟩ = false := (HK.out.1.below HO.out).frozen 0
     have z0 : C < wd.heap.size := (HK.out.1.below HO.out).lt
     refine tkS 0 hHeld ?_
     refine tkS 1 hHeld ?_
     refine tkS 2 hHeld ?_
     refine tkS 3 hHeld ?_
     refine tkS 5 hHeld ?_
     refine tkS 6 hHeld ?_
     refine tkS 7 hHeld ?_
     refine tkS 8 hHeld ?_
     refine tkS 9 hHeld ?_
     refine tkS 10 hHeld ?_
     refine tkS 11 hHeld ?_
     refine tkS 12 hHeld ?_
     refine tkS 13 hHeld ?_
     refine tkS 14 hHeld ?_
     refine wpAnyH_ready (rs := [4, 15]) (by kernel_rfl) (by simp) ?_
     refine consL rfl (fun K hK => ?_) (consL rfl (fun K hK => ?_) AllReadyH.nil)
     ·go_simp
      refine hK.out _ _ hHeld (fun hHeld => ?_)
      clear hK K
      try simp only [Act.put, sA, sB, sC]
      refine rdL 15 (fun K hK => ?_)
      go_simp
      refine hK.out _ _ (hHeld.alloc _) (fun hHeld => ?_)
      clear hK K
      try simp only [Act.put, sA, sB, sC]
      refine rdL 16 (fun K hK => ?_)
      refine step_appR Tryz.rowKeys rfl (.tmp 148) (.tmp 159) rfl (C + 1) R kv (keysV g R) rfl ?_ wd.heap.size 0 1 1 [keyV g R] rfl rfl ?_ (by intro u hu; cases hu with | head => rfl | tail _ h => cases h) (by unfold maxLen; omega) (by omega) ?_ ?_
      ·exact ((HK.out.2.1.keep fun k hk => HO.out.block k (HK.out.2.1.lt hk).2)).alloc_ _
      ·exact cells_newR wd [keyV g R] _
      ·have := hCs; simp; omega
      intro v2 w2 hk2 hg2 hb2
      rw [← keysV_succ] at hk2
      refine hK.out _ _ (hHeld.grown hg2 (fun k hk => .inl (by rw [hk]; simp))) (fun hHeld => ?_)
      clear hK K
      try simp only [Act.put, sA, sB, sC]
      have hC2 : Blk w2 C 127 #[kv, .slice (some ⟨h1, 0, none⟩) 256 256, .slice (some ⟨h2, 0, none⟩) 256 256] := by
       refine Blk.keep ((HK.out.1.below HO.out).alloc _) (hg2.block _ (by simp; omega) (fun e => ?_))
       have := (HK.out.2.1.lt e.symm).1
       omega
      have d0 : w2.cell? ⟨C, 0, none⟩ = some kv := by rw [hC2.cell 0]; rfl
      have d1 : w2.frozen? ⟨C, 0, none⟩ = false := hC2.frozen 0
      have H2 := Lib.hid (And.intro hk2 hC2)
      clear hk2 hg2 hb2 hC2 c0 f0
      refine rdL 17 (fun K hK => ?_)
      go_simp
      refine hK.out _ _ hHeld (fun hHeld => ?_)
      clear hK K
      try simp only [Act.put, sA, sB, sC]
      refine rdL 18 (fun K hK => ?_)
      go_simp
      refine hK.out _ _ hHeld (fun hHeld => ?_)
      clear hK K
      try simp only [Act.put, sA, sB, sC]
      refine rdL 19 (fun K hK => ?_)
      obtain ⟨A3, n3, hv2, _⟩ := H2.out.1.form (by omega) (by omega)
      subst hv2
      go_simp
      refine hK.out _ _ (hHeld.setCell (.inl (by simp)) _) (fun hHeld => ?_)
      clear hK K
      try simp only [Act.put, sA, sB, sC]
      refine wpAnyH_done (by kernel_rfl) ?_ _
      refine NoPanic.normal ?_
      have HH := Lib.hid hHeld
      clear hHeld d0 d1
      go_wp2_with fail
      have hne2 : (Value.slice (some ⟨A3, 0, none⟩) (R + 1) n3).ownBlock ≠ some C := fun e => by have := (H2.out.1.lt e).1; omega
      refine ⟨⟨R + 1, .slice (some ⟨A3, 0, none⟩) (R + 1) n3, by omega, by go_num, H2.out.2.set_ 0 _, H2.out.1.keep fun k hk => (Below.heap_setCell _ _ _ k (fun e => hne2 (by rw [hk, e]))), ?_⟩, by simp [intOf]; omega⟩
      exact below_turn HK.out.2.2 HH.out (fun t ht => by
        rcases List.mem_cons.1 ht with e | hm
        ·omega
        ·have := (HK.out.2.1.lt (show _ = some t by simpa using hm)).1; omega) (by have := HK.out.2.2.size; have := hCs; omega)
     ·go_simp
      refine hK.out _ _ (hHeld.alloc _) (fun hHeld => ?_)
      clear hK K
      try simp only [Act.put, sA, sB, sC]
      refine rdL 4 (fun K hK => ?_)
      go_simp
      refine hK.out _ _ hHeld (fun hHeld => ?_)
      clear hK K
      try simp only [Act.put, sA, sB, sC]
      refine rdL 16 (fun K hK => ?_)
      refine step_appR Tryz.rowKeys rfl (.tmp 148) (.tmp 159) rfl (C + 1) R kv (keysV g R) rfl ?_ wd.heap.size 0 1 1 [keyV g R] rfl rfl ?_ (by intro u hu; cases hu with | head => rfl | tail _ h => cases h) (by unfold maxLen; omega) (by omega) ?_ ?_
      ·exact ((HK.out.2.1.keep fun k hk => HO.out.block k (HK.out.2.1.lt hk).2)).alloc_ _
      ·exact cells_newR wd [keyV g R] _
      ·have := hCs; simp; omega
      intro v2 w2 hk2 hg2 hb2
      rw [← keysV_succ] at hk2
      refine hK.out _ _ (hHeld.grown hg2 (fun k hk => .inl (by rw [hk]; simp))) (fun hHeld => ?_)
      clear hK K
      try simp only [Act.put, sA, sB, sC]
      have hC2 : Blk w2 C 127 #[kv, .slice (some ⟨h1, 0, none⟩) 256 256, .slice (some ⟨h2, 0, none⟩) 256 256] := by
       refine Blk.keep ((HK.out.1.below HO.out).alloc _) (hg2.block _ (by simp; omega) (fun e => ?_))
       have := (HK.out.2.1.lt e.symm).1
       omega
      have d0 : w2.cell? ⟨C, 0, none⟩ = some kv := by rw [hC2.cell 0]; rfl
      have d1 : w2.frozen? ⟨C, 0, none⟩ = false := hC2.frozen 0
      have H2 := Lib.hid (And.intro hk2 hC2)
      clear hk2 hg2 hb2 hC2 c0 f0
      refine rdL 17 (fun K hK => ?_)
      go_simp
      refine hK.out _ _ hHeld (fun hHeld => ?_)
      clear hK K
      try simp only [Act.put, sA, sB, sC]
      refine rdL 18 (fun K hK => ?_)
      go_simp
      refine hK.out _ _ hHeld (fun hHeld => ?_)
      clear hK K
      try simp only [Act.put, sA, sB, sC]
      refine rdL 19 (fun K hK => ?_)
      obtain ⟨A3, n3, hv2, _⟩ := H2.out.1.form (by omega) (by omega)
      subst hv2
      go_simp
      refine hK.out _ _ (hHeld.setCell (.inl (by simp)) _) (fun hHeld => ?_)
      clear hK K
      try simp only [Act.put, sA, sB, sC]
      refine wpAnyH_done (by kernel_rfl) ?_ _
      refine NoPanic.normal ?_
      have HH := Lib.hid hHeld
      clear hHeld d0 d1
      go_wp2_with fail
      have hne2 : (Value.slice (some ⟨A3, 0, none⟩) (R + 1) n3).ownBlock ≠ some C := fun e => by have := (H2.out.1.lt e).1; omega
      refine ⟨⟨R + 1, .slice (some ⟨A3, 0, none⟩) (R + 1) n3, by omega, by go_num, H2.out.2.set_ 0 _, H2.out.1.keep fun k hk => (Below.heap_setCell _ _ _ k (fun e => hne2 (by rw [hk, e]))), ?_⟩, by simp [intOf]; omega⟩
      exact below_turn HK.out.2.2 HH.out (fun t ht => by
        rcases List.mem_cons.1 ht with e | hm
        ·omega
        ·have := (HK.out.2.1.lt (show _ = some t by simpa using hm)).1; omega) (by have := HK.out.2.2.size; have := hCs; omega)
    ·obtain rfl : R = n + 7 := by omega
     have s9 : ¬ ((n : Int) + 7 ≤ (n : Int) + 6) := by omega
     obtain ⟨kb, cq, rfl, k1, k2, k3, k4, k5⟩ := hK.form (by omega) (by omega)
     have hfin : RCip wr C kb (n + 7) cq h1 h2 (rks l) := by
      have hOf := HX.out.1.below (by rw [hCs]; exact hB)
      refine ⟨hC, k2, by have := HX.out.2.2.2.2.1; omega, by omega, by omega, k3, fun i hi => ⟨g, 16 * i, k5 i _ (keysV_at g _ i hi), ?_⟩, (HX.out.2.1.below (by rw [hCs]; exact hB)).rd, (HX.out.2.2.1.below (by rw [hCs]; exact hB)).rd⟩
      refine ⟨?_, Nat.le_refl _, by unfold maxLen; omega, .inr ⟨g, 16 * i, rfl, (hOf.lt (g := g) rfl).2, fun k x hx => ?_⟩⟩
      ·unfold key; rw [List.length_take, List.length_drop, HX.out.2.2.2.2.1]; omega
      ·refine hOf.cell (16 * i + k) x ?_
       unfold key at hx
       rw [List.getElem?_take] at hx
       split at hx
       ·rwa [List.getElem?_drop] at hx
       ·cases hx
     have hBf := HX.out.2.2.2.1.trans (hB.mono (by rw [← hCs]; exact HX.out.2.2.2.1.size))
     have HF := Lib.hid (And.intro hfin hBf)
     clear hfin hBf hC hK hB k1 k2 k3 k4 k5 hR hlt
     go_wp2_with fail
     go_ret
     exact ⟨C, kb, n + 7, cq, h1, h2, rfl, HF.out.1, HF.out.2⟩
set_option maxRecDepth 100000 in
set_option maxHeartbeats 4000000 in
theorem renc_any (c kb R cap g1 g2 : Nat) (ks : List UInt8) (A : Option Addr) (cb : Nat) (l : List UInt8) (w : World) (h : RCip w c kb R cap g1 g2 ks) (hr : Rd w A 16 cb l) :
  Calls Tryz.prog 48 #[.pointer (some ⟨c, 0, none⟩), .slice A 16 cb] w fun e w' => ∃ g : Nat, e = .returned (.slice (some ⟨g, 0, none⟩) 16 16) ∧ Own w' w.heap.size (.slice (some ⟨g, 0, none⟩) 16 16) (encL ks R l) ∧ Below w.heap.size w w' := by
 have hR1 : 11 ≤ R := h.2.2.2.1
 have hR2 : R ≤ 15 := h.2.2.2.2.1
 have hcap : R ≤ cap := h.2.2.2.2.2.1
 have hR2' : (R : Int) ≤ 15 := by omega
 have hR1' : (11 : Int) ≤ R := by omega
 obtain ⟨X, hX⟩ : ∃ X, w.heap.size = X := ⟨_, rfl⟩
 have hin : ∀ W, Below X w W → W.cell? ⟨c, 0, none⟩ = some (.slice (some ⟨kb, 0, none⟩) R cap) ∧ W.cell? ⟨c, 1, none⟩ = some (.slice (some ⟨g1, 0, none⟩) 256 256) := fun W hb => by
  have h1 := (h.below (by rw [hX]; exact hb)).1
  exact ⟨by rw [h1.cell 0]; rfl, by rw [h1.cell 1]; rfl⟩
 have hkey : ∀ W i, i < R → Below X w W → ∃ gk o, W.cell? ⟨kb, i, none⟩ = some (.slice (some ⟨gk, o, none⟩) 16 16) ∧ Rd W (some ⟨gk, o, none⟩) 16 16 (key ks i) := fun W i hi hb => (h.below (by rw [hX]; exact hb)).2.2.2.2.2.2.1 i hi
 have hbox : ∀ W, Below X w W → Rd W (some ⟨g1, 0, none⟩) 256 256 boxL := fun W hb => (h.below (by rw [hX]; exact hb)).2.2.2.2.2.2.2.1
 obtain ⟨z0, z1⟩ := hin w (Below.refl _ _)
 obtain ⟨gk, o, k0, k1⟩ := hkey w 0 (by omega) (Below.refl _ _)
 have HI := Lib.hid (And.intro hin (And.intro hkey hbox))
 have hx0 := rxor_any _ _ _ _ _ _ w hr k1
 have hlen : l.length = 16 := hr.1.symm
 have hcl : c < X := by rw [← hX]; exact h.1.lt
 have hkl : kb < X := by rw [← hX]; exact h.2.1
 have hksl := h.2.2.1
 have Hx0 := Lib.hid hx0
 have HL := Lib.hid (And.intro hlen hksl)
 have z5 : (0 : Int) ≤ R := by omega
 have q4 : IntKind.i64.wrap ((R : Int) - 1) = (R : Int) - 1 := IntWalk.i64_in _ (by omega)
 have q0 : (0 : Int) < R := by omega
 clear hin hkey hbox h hr k1 hx0 hlen hksl
 rw [hX]
 go_enter Tryz.func48, Tryz.ntmps48
 go_upto_region 2 with (go_at_call 78; go_must (refine Hx0.out.mono ?_); rintro e w1 ⟨rfl, ho1, hb1⟩; have H1 := Lib.hid (And.intro ho1 hb1); clear ho1 hb1)
 rw [hX] at H1
 obtain ⟨u0, u1⟩ := HI.out.1 w1 H1.out.2
 clear z0 z1 k0
 go_wp2_with fail
 have henc1 : encF ks R l 1 = xorL l (key ks 0) := by
  show xorL (encM R 0 l) (key ks 0) = _
  unfold encM; rw [if_neg (by omega)]
 have HE1 := Lib.hid henc1
 clear henc1 u0 u1
 go_loopw [5, 7] (fun xv iv wr => ∃ (i g : Nat), 1 ≤ i ∧ i ≤ R ∧ xv = .slice (some ⟨g, 0, none⟩) 16 16 ∧ iv = .int .i64 (i : Int) ∧ Own wr X (.slice (some ⟨g, 0, none⟩) 16 16) (encF ks R l i) ∧ Below X w wr) (fun _ iv _ => 16 - (intOf iv).toNat)
 case atStart => exact ⟨1, X, by omega, by omega, rfl, rfl, by rw [HE1.out]; exact H1.out.1, H1.out.2⟩
 case round =>
  obtain ⟨i, g, hi1, hi2, rfl, rfl, hx, hB⟩ := hrel
  clear H1
  by_cases hlt : i < R
  ·have hq : (i : Int) ≤ (R : Int) - 1 := by omega
   have hsl := encF_len ks R l HL.out.2 HL.out.1 i (by omega)
   have hnext : encF ks R l (i + 1) = xorL (encM R i (encF ks R l i)) (key ks i) := rfl
   generalize encF ks R l i = s at *
   have hmk := Tryz.prog_make 16 (by omega) wr
   rw [show ((16 : Nat) : Int) = 16 from rfl] at hmk
   obtain ⟨wc, hwc⟩ : ∃ wc, wr.alloc (.cells (madeCells #[.int .u8 0] 16) 5) = wc := ⟨_, rfl⟩
   have hOy := Own.made wr 16 (by unfold maxLen; omega)
   rw [hwc] at hmk hOy
   have hBc : Below X w wc := by rw [← hwc]; exact hB.alloc (by rw [← hX]; exact hB.size) _
   have hXc : X ≤ wr.heap.size := by rw [← hX]; exact hB.size
   have hgl := (hx.lt (g := g) rfl).2
   have hxc : Own wc X (.slice (some ⟨g, 0, none⟩) 16 16) s := by rw [← hwc]; exact hx.alloc_ _
   generalize wr.heap.size = Y at *
   have HR := Lib.hid (And.intro hBc (And.intro hxc (And.intro hOy (And.intro hsl hnext))))
   clear hx hB hBc hxc hOy hsl hnext hwc
   go_wp2_with fail
   clear hmk
   go_loopw [9] (fun kv wz => ∃ k : Nat, k ≤ 16 ∧ kv = .int .i64 (k : Int) ∧ Own wz Y (.slice (some ⟨Y, 0, none⟩) 16 16) (encN s k) ∧ Turn [Y] wc wz) (fun kv _ => 16 - (intOf kv).toNat)
   case atStart => exact ⟨0, by omega, rfl, HR.out.2.2.1, Turn.refl _ _⟩
   case round =>
    obtain ⟨k, hk, rfl, hA, hT⟩ := hrel
    have hBz := below_turn HR.out.1 hT (by simp; exact hXc) (by rw [← hX]; exact HR.out.1.size)
    have hxz := HR.out.2.1.turn hT (fun q hq hm => by cases hq; simp at hm; omega)
    by_cases hklt : k < 16
    ·have hkq : (k : Int) < 16 := by omega
     obtain ⟨u0, u1⟩ := HI.out.1 wr hBz
     obtain ⟨m, hm⟩ : ∃ m, m = k % 4 := ⟨_, rfl⟩
     obtain ⟨p, hp⟩ : ∃ p, p = shp k := ⟨_, rfl⟩
     have hp' : p = (k + k % 4 * 4) % 16 := hp
     have hp16 : p < 16 := by omega
     obtain ⟨x, hxx⟩ := at16 s HR.out.2.2.2.1 p hp16
     have e3 : (x.toNat : Int) < 256 := by have := x.toNat_lt; omega
     have y1 := hxz.cell p x hxx
     have y2 : wr.cell? ⟨g1, x.toNat, none⟩ = some (B (sb x)) := by
      have hbx := HI.out.2.2 wr hBz
      obtain ⟨b, off, e, ha⟩ := hbx.addr (by omega)
      cases e
      have := ha.2 x.toNat _ (box_at x)
      rwa [Nat.zero_add] at this
     obtain ⟨z, hz⟩ := at16 (encN s k) hA.len.symm k hklt
     have y3 := hA.cell k z hz
     have y4 := hA.frozen k
     have g0 : (k : Int).tmod 4 = (m : Int) := by rw [Int.tmod_eq_emod_of_nonneg (by omega)]; omega
     have g0' : (k : Int) % 4 = (m : Int) := by omega
     have g3 : IntKind.i64.wrap (4 * (m : Int)) = 4 * (m : Int) := IntWalk.i64_in _ (by omega)
     have g2 : IntKind.i64.wrap ((k : Int) + 4 * (m : Int)) = (k : Int) + 4 * (m : Int) := IntWalk.i64_in _ (by omega)
     have g6 : ((k : Int) + 4 * (m : Int)).tmod 16 = (p : Int) := by rw [Int.tmod_eq_emod_of_nonneg (by omega)]; omega
     have g6' : ((k : Int) + 4 * (m : Int)) % 16 = (p : Int) := by omega
     have g4 : (p : Int) < 16 := by omega
     have hnew : encN s (k + 1) = (encN s k).set k (sb x) := by
      show (encN s k).set k (sb (s.getD (shp k) 0)) = _
      rw [← hp, List.getD_eq_getElem?_getD, hxx]; rfl
     have HB := Lib.hid (And.intro hA (And.intro hT hnew))
     clear hA hT hBz hxz hxx hz hp hp' hm hnew
     go_wp2_with fail
     go_still_tail 18, (by kernel_rfl)
     go_wp2_with fail
     have h1 := HB.out.1.set_ k (sb x) hklt
     go_roundw
     case rel => exact ⟨k + 1, by omega, by go_num, by rw [HB.out.2.2]; exact h1, (HB.out.2.1.setCell (p := ⟨Y, k, none⟩) (.inl (by simp)) _).drew⟩
     case measure => simp [intOf]; omega
    ·obtain rfl : k = 16 := by omega
     have hkq : ¬ ((16 : Int) < 16) := by omega
     have hem : encM R i s = (if i < R - 1 then mixN (encN s 16) [2, 3, 1, 1] 4 else encN s 16) := by unfold encM; rw [if_pos (by omega)]
     have hyl := encN_len s 16
     have HY := Lib.hid (And.intro (hA.mono hXc) (And.intro hBz (And.intro hem hyl)))
     clear hA hT hBz hxz hem hyl hk hklt
     go_upto_if 54 with fail
     go_cut [8] from 24 to 66 (fun yv wx => ∃ gy, yv = .slice (some ⟨gy, 0, none⟩) 16 16 ∧ Own wx X (.slice (some ⟨gy, 0, none⟩) 16 16) (encM R i s) ∧ Below X w wx)
     case first =>
      by_cases hm : i < R - 1
      ·have hm' : decide ((i : Int) < (R : Int) - 1) = true := decide_eq_true (by omega)
       have hm2 : (i : Int) < (R : Int) - 1 := by omega
       obtain ⟨wf, hwf⟩ : ∃ wf, wr.alloc (.cells #[.int .u8 2, .int .u8 3, .int .u8 1, .int .u8 1] 5) = wf := ⟨_, rfl⟩
       have hF : Rd wf (some ⟨wr.heap.size, 0, none⟩) 4 4 [2, 3, 1, 1] := by rw [← hwf]; exact rd_lit (l2 := [2, 3, 1, 1]) rfl rfl (by omega)
       have hyf : Rd wf (some ⟨Y, 0, none⟩) 16 16 (encN s 16) := by rw [← hwf]; exact (HY.out.1.alloc_ _).rd
       have hBf : Below X w wf := by rw [← hwf]; exact HY.out.2.1.alloc (by rw [← hX]; exact HY.out.2.1.size) _
       have hmx := rmix_any _ _ _ _ _ _ wf hyf hF
       rw [rmix_eq _ _ _ _ _ HY.out.2.2.2] at hmx
       have HM := Lib.hid (And.intro hmx hBf)
       have hdm : encM R i s = mixN (encN s 16) [2, 3, 1, 1] 4 := by rw [HY.out.2.2.1, if_pos hm]
       have HDM := Lib.hid hdm
       clear hmx hdm hF hyf hBf
       go_wp2_with (go_at_call 79; go_must (refine HM.out.1.mono ?_); rintro e w4 ⟨rfl, ho4, hb4⟩; have H4 := Lib.hid (And.intro ho4 hb4); clear ho4 hb4)
       go_meet
       case rel =>
        have hs : X ≤ wf.heap.size := by rw [← hX]; exact HM.out.2.size
        exact ⟨_, rfl, by rw [HDM.out]; exact H4.out.1.mono hs, HM.out.2.trans (H4.out.2.mono hs)⟩
      ·have hm' : decide ((i : Int) < (R : Int) - 1) = false := decide_eq_false (by omega)
       have hm2 : ¬ ((i : Int) < (R : Int) - 1) := by omega
       have hdm : encM R i s = encN s 16 := by rw [HY.out.2.2.1, if_neg hm]
       have HDM := Lib.hid hdm
       clear hdm
       go_wp2_with fail
       go_meet
       case rel => exact ⟨Y, rfl, by rw [HDM.out]; exact HY.out.1, HY.out.2.1⟩
     case rest =>
      obtain ⟨gy, rfl, hy2, hB2⟩ := hcut
      obtain ⟨u0, u1⟩ := HI.out.1 wc hB2
      obtain ⟨gq, oq, k0, k1⟩ := HI.out.2.1 wc i hlt hB2
      have hxo := rxor_any _ _ _ _ _ _ wc hy2.rd k1
      have HXo := Lib.hid (And.intro hxo hB2)
      have hic : (i : Int) < R := by omega
      clear hy2 hB2 k1 hxo
      go_wp2_with (go_at_call 78; go_must (refine HXo.out.1.mono ?_); rintro e w5 ⟨rfl, ho5, hb5⟩; have H5 := Lib.hid (And.intro ho5 hb5); clear ho5 hb5)
      have hs : X ≤ wc.heap.size := by rw [← hX]; exact HXo.out.2.size
      go_roundw
      case rel => exact ⟨i + 1, _, by omega, by omega, rfl, by go_num, by rw [HR.out.2.2.2.2]; exact H5.out.1.mono hs, HXo.out.2.trans (H5.out.2.mono hs)⟩
      case measure => simp [intOf]; omega
  ·obtain rfl : i = R := by omega
   have hq : ¬ ((i : Int) ≤ (i : Int) - 1) := by omega
   have HS := Lib.hid (And.intro hx hB)
   clear hx hB hi2 hlt
   go_wp2_with fail
   go_ret
   exact ⟨g, rfl, HS.out.1, HS.out.2⟩
attribute [local go_sem] addI_B shr_B
def shB (v : List UInt8) (k : Nat) : UInt8 := if 0 < k ∧ isN (v.getD (k - 1) 0 &&& 1) 1 = true then (v.getD k 0 >>> 1) + 128 else v.getD k 0 >>> 1
def shL (v : List UInt8) : List UInt8 := (List.range 16).map (shB v)
theorem shL_len (v : List UInt8) : (shL v).length = 16 := by simp [shL]
theorem shL_at (v : List UInt8) (k : Nat) (h : k < 16) : (shL v)[k]? = some (shB v k) := by unfold shL; rw [List.getElem?_map, List.getElem?_range h]; rfl
def rS (v : List UInt8) : List UInt8 := if isN (v.getD 15 0 &&& 1) 1 = true then (shL v).set 0 (shB v 0 ^^^ 225) else shL v
def bR (x : List UInt8) (i : Nat) : Bool := isN ((x.getD (i / 8) 0 >>> UInt8.ofNat (7 - i % 8)) &&& 1) 1
def rT (x y : List UInt8) : Nat → List UInt8 × List UInt8
 | 0 => (zs 16, y)
 | i + 1 => (if bR x i = true then xorL (rT x y i).1 (rT x y i).2 else (rT x y i).1, rS (rT x y i).2)
theorem rS_len (v : List UInt8) : (rS v).length = 16 := by unfold rS; split; rw [List.length_set, shL_len]; exact shL_len v
theorem rT_len (x y : List UInt8) (hy : y.length = 16) (i : Nat) : (rT x y i).1.length = 16 ∧ (rT x y i).2.length = 16 := by
 induction i with
 | zero => exact ⟨zs_len 16, hy⟩
 | succ i ih =>
  refine ⟨?_, rS_len _⟩
  show (if bR x i = true then _ else _ : List UInt8).length = 16
  split
  ·exact xorL_len _ _ 16 ih.1 ih.2
  ·exact ih.1
def fin_ (j : Nat) (o l : List UInt8) : List UInt8 := l.take j ++ o.drop j
theorem fin_at (j : Nat) (o l : List UInt8) (k : Nat) (hk : k < j) (hl : j ≤ l.length) : (fin_ j o l)[k]? = l[k]? := by
 unfold fin_
 rw [List.getElem?_append_left (by rw [List.length_take]; omega), List.getElem?_take, if_pos hk]
theorem fin_set (j : Nat) (o l : List UInt8) (x : UInt8) (hx : o[j]? = some x) (hl : j < l.length) : (fin_ (j + 1) o l).set j x = fin_ j o l := by
 have hj := (List.getElem?_eq_some_iff.1 hx).1
 unfold fin_
 refine List.ext_getElem? fun q => ?_
 rw [List.getElem?_set]
 by_cases e : j = q
 ·subst e
  rw [if_pos rfl, if_pos (by simp; omega), List.getElem?_append_right (by rw [List.length_take]; omega), List.getElem?_drop, List.length_take, Nat.min_eq_left (by omega), Nat.sub_self, Nat.add_zero, hx]
 ·rw [if_neg e]
  rcases Nat.lt_or_ge q j with h | h
  ·rw [List.getElem?_append_left (by rw [List.length_take]; omega), List.getElem?_append_left (by rw [List.length_take]; omega), List.getElem?_take, List.getElem?_take, if_pos (by omega), if_pos h]
  ·rw [List.getElem?_append_right (by rw [List.length_take]; omega), List.getElem?_append_right (by rw [List.length_take]; omega), List.getElem?_drop, List.getElem?_drop, List.length_take, List.length_take, Nat.min_eq_left (by omega), Nat.min_eq_left (by omega)]
   congr 1; omega
theorem fin_all (o l : List UInt8) (h : l.length = o.length) : fin_ l.length o l = l := by
 unfold fin_
 rw [List.take_length, h, List.drop_length, List.append_nil]
theorem fin_zero (o l : List UInt8) : fin_ 0 o l = o := by simp [fin_]
set_option maxRecDepth 100000 in
set_option maxHeartbeats 4000000 in
theorem rgmul_any (A C : Option Addr) (ca cb : Nat) (x y : List UInt8) (w : World) (hx : Rd w A 16 ca x) (hy : Rd w C 16 cb y) :
  Calls Tryz.prog 100 #[.slice A 16 ca, .slice C 16 cb] w fun e w' => ∃ g c, e = .returned (.slice (some ⟨g, 0, none⟩) 16 c) ∧ Own w' w.heap.size (.slice (some ⟨g, 0, none⟩) 16 c) (rT x y 128).1 ∧ Below w.heap.size w w' := by
 have hxl : x.length = 16 := hx.1.symm
 have hyl : y.length = 16 := hy.1.symm
 have hca := hx.2.1
 have hcb := hy.2.1
 obtain ⟨bx, ox, rfl, hax⟩ := hx.addr (by omega)
 obtain ⟨X, hX⟩ : ∃ X, w.heap.size = X := ⟨_, rfl⟩
 have hmk := Tryz.prog_make 16 (by omega) w
 obtain ⟨w1, hw1⟩ : ∃ w1, w.alloc (.cells (madeCells #[.int .u8 0] 16) 5) = w1 := ⟨_, rfl⟩
 have hO1 : Own w1 X (.slice (some ⟨X, 0, none⟩) 16 16) (zs 16) := by rw [← hw1, ← hX]; exact Own.made w 16 (by unfold maxLen; omega)
 have hB1 : Below X w w1 := by rw [← hw1, ← hX]; exact (Below.refl _ _).alloc (Nat.le_refl _) _
 have hz1 : w1.heap.size = X + 1 := by rw [← hw1, ← hX]; simp
 rw [hw1, hX, show ((16 : Nat) : Int) = 16 from rfl] at hmk
 have hbX : bx < X := by rw [← hX]; exact hax.1
 have hy1 : Rd w1 C 16 cb y := hy.below (by rw [hX]; exact hB1)
 have HH := Lib.hid (And.intro hax (And.intro hxl (And.intro hyl (And.intro hO1 (And.intro hB1 (And.intro hy1 hz1))))))
 clear hax hx hy hxl hyl hO1 hB1 hy1 hw1 hz1
 rw [hX]
 go_enter Tryz.func100, Tryz.ntmps100
 go_wp2_with (at_builtin; go_must (refine wp_app2 (.const (.slice none 0 0)) (.tmp 11) (X + 1) (.slice none 0 0) [] (Own.nil _ _) (by have := HH.out.2.2.2.2.2.2; omega) C 16 cb y HH.out.2.2.2.2.2.1 (by have := HH.out.2.2.1; simp; omega) rfl rfl rfl rfl ?_); intro Av nv cv w2 hiv hG; have H2 := Lib.hid hG; clear hG)
 have hnv : nv = 16 := by have := H2.out.len; have := HH.out.2.2.1; simp at *; omega
 obtain ⟨gv, rfl⟩ : ∃ gv, Av = some ⟨gv, 0, none⟩ := by
  obtain ⟨g, c, e⟩ := H2.out.own.form (fun e => by injection e with _ e _; omega)
  cases e
  exact ⟨g, rfl⟩
 subst hnv
 have hgv := (H2.out.own.lt (g := gv) rfl).1
 have hcv := H2.out.own.blk.2.1
 have hOz2 := HH.out.2.2.2.1.keep (w' := w2) (fun g hg => by cases hg; exact H2.out.below.block X (by have := HH.out.2.2.2.2.2.2; omega))
 have hB2 := HH.out.2.2.2.2.1.trans (H2.out.below.mono (by omega))
 have hOv2 := H2.out.own
 rw [List.nil_append] at hOv2
 have H3 := Lib.hid (And.intro hOz2 (And.intro hB2 hOv2))
 clear hOz2 hB2 hOv2 H2 hmk
 go_loopw [5, 7] (fun zv iv wr => ∃ (i gz cz : Nat), i ≤ 128 ∧ zv = .slice (some ⟨gz, 0, none⟩) 16 cz ∧ iv = .int .i64 (i : Int) ∧ gz ≠ gv ∧ Own wr X (.slice (some ⟨gz, 0, none⟩) 16 cz) (rT x y i).1 ∧ Own wr (X + 1) (.slice (some ⟨gv, 0, none⟩) 16 cv) (rT x y i).2 ∧ Below X w wr) (fun _ iv _ => 128 - (intOf iv).toNat)
 case atStart => exact ⟨0, X, 16, by omega, rfl, rfl, by omega, H3.out.1, H3.out.2.2, H3.out.2.1⟩
 case round =>
  obtain ⟨i, gz, cz, hi, rfl, rfl, hne, hz, hv, hB⟩ := hrel
  clear H3
  by_cases hlt : i < 128
  ·have hq : (i : Int) < 128 := by omega
   have hst : rT x y (i + 1) = (if bR x i = true then xorL (rT x y i).1 (rT x y i).2 else (rT x y i).1, rS (rT x y i).2) := rfl
   have hlen := rT_len x y HH.out.2.2.1 i
   generalize (rT x y i).1 = z at *
   generalize (rT x y i).2 = v at *
   obtain ⟨q, hq8⟩ : ∃ q, q = i / 8 := ⟨_, rfl⟩
   obtain ⟨s, hs8⟩ : ∃ s, s = 7 - i % 8 := ⟨_, rfl⟩
   obtain ⟨xb, hxb⟩ := at16 x HH.out.2.1 q (by omega)
   have y0 : wr.cell? ⟨bx, ox + q, none⟩ = some (B xb) := by rw [hB.cell (p := ⟨bx, ox + q, none⟩) hbX]; exact HH.out.1.2 q xb hxb
   have hbr : bR x i = isN ((xb >>> UInt8.ofNat s) &&& 1) 1 := by
    unfold bR
    rw [← hq8, ← hs8, List.getD_eq_getElem?_getD, hxb]; rfl
   have g0 : (i : Int).tdiv 8 = (q : Int) := by rw [Int.tdiv_eq_ediv_of_nonneg (by omega)]; omega
   have g0' : (i : Int) / 8 = (q : Int) := by omega
   obtain ⟨m, hm⟩ : ∃ m, m = i % 8 := ⟨_, rfl⟩
   have g1 : (i : Int).tmod 8 = (m : Int) := by rw [Int.tmod_eq_emod_of_nonneg (by omega)]; omega
   have g1' : (i : Int) % 8 = (m : Int) := by omega
   have g2 : IntKind.i64.wrap (7 - (m : Int)) = (s : Int) := by rw [IntWalk.i64_in _ (by omega)]; omega
   have g3 : s < 8 := by omega
   have g4 : (q : Int) < 16 := by omega
   have hcq : (q : Int) < ca := by omega
   have HR := Lib.hid (And.intro hst (And.intro hlen (And.intro hz (And.intro hv (And.intro hB (And.intro hbr hi))))))
   clear hst hlen hz hv hB hbr hi hxb hq8 hs8 hm
   go_upto_if 27 with fail
   generalize isN ((xb >>> UInt8.ofNat s) &&& 1) 1 = bb at *
   go_cut [5] from 13 to 71 (fun zv wx => ∃ gn cn, zv = .slice (some ⟨gn, 0, none⟩) 16 cn ∧ gn ≠ gv ∧ Own wx X (.slice (some ⟨gn, 0, none⟩) 16 cn) (if bR x i = true then xorL z v else z) ∧ Own wx (X + 1) (.slice (some ⟨gv, 0, none⟩) 16 cv) v ∧ Below X w wx)
   case first =>
    cases bb with
    | true =>
     have hbT : bR x i = true := HR.out.2.2.2.2.2.1
     have HbT := Lib.hid hbT
     clear hbT
     go_wp2_with (go_at_call 78; go_must (refine (rxor_any _ _ _ _ z v wr HR.out.2.2.1.rd HR.out.2.2.2.1.rd).mono ?_); rintro e w4 ⟨rfl, ho4, hb4⟩; have H4 := Lib.hid (And.intro ho4 hb4); clear ho4 hb4)
     go_meet
     case rel =>
      have hgl := (HR.out.2.2.2.1.lt (g := gv) rfl).2
      refine ⟨wr.heap.size, 16, rfl, by omega, ?_, ?_, ?_⟩
      ·rw [if_pos HbT.out]; exact H4.out.1.mono (by rw [← hX]; exact HR.out.2.2.2.2.1.size)
      ·exact HR.out.2.2.2.1.below H4.out.2
      ·exact HR.out.2.2.2.2.1.trans (H4.out.2.mono (by rw [← hX]; exact HR.out.2.2.2.2.1.size))
    | false =>
     have hbF : ¬ bR x i = true := by rw [HR.out.2.2.2.2.2.1]; simp
     have HbF := Lib.hid hbF
     clear hbF
     go_wp2_with fail
     go_meet
     case rel => exact ⟨gz, cz, rfl, hne, by rw [if_neg HbF.out]; exact HR.out.2.2.1, HR.out.2.2.2.1, HR.out.2.2.2.2.1⟩
   case rest =>
    obtain ⟨gn, cn, rfl, hne2, hz2, hv2, hB2⟩ := hcut
    generalize hzz : (if bR x i = true then xorL z v else z) = z2 at *
    have hvl : v.length = 16 := HR.out.2.1.2
    obtain ⟨v15, hv15⟩ := at16 v hvl 15 (by omega)
    have y15 := hv2.cell 15 v15 hv15
    have HV := Lib.hid (And.intro hz2 (And.intro hv2 (And.intro hB2 (And.intro hv15 (And.intro hvl hzz)))))
    clear hz2 hv2 hB2 hv15 hvl hzz y0
    have hb15 : v.getD 15 0 = v15 := by rw [List.getD_eq_getElem?_getD, HV.out.2.2.2.1]; rfl
    have HB15 := Lib.hid hb15
    clear hb15
    go_upto_region 9 with fail
    clear y15
    generalize hT8 : isN (v15 &&& 1) 1 = t8 at *
    go_wp2_with fail
    go_loopw [9] (fun kv wz => ((∃ k : Nat, k < 16 ∧ kv = .int .i64 (k : Int) ∧ Own wz (X + 1) (.slice (some ⟨gv, 0, none⟩) 16 cv) (fin_ (k + 1) (shL v) v)) ∨ (kv = .int .i64 (-1) ∧ Own wz (X + 1) (.slice (some ⟨gv, 0, none⟩) 16 cv) (shL v))) ∧ Turn [gv] wc wz) (fun kv _ => (intOf kv + 1).toNat)
    case atStart =>
     refine ⟨.inl ⟨15, by omega, rfl, ?_⟩, Turn.refl _ _⟩
     have := fin_all (shL v) v (by rw [shL_len]; exact HV.out.2.2.2.2.1)
     rw [HV.out.2.2.2.2.1] at this
     rw [this]; exact HV.out.2.1
    case round =>
     obtain ⟨⟨k, hk, rfl, hO⟩ | ⟨rfl, hO⟩, hT⟩ := hrel
     ·have hk0 : (0 : Int) ≤ k := by omega
      have hkq : (k : Int) < 16 := by omega
      obtain ⟨vk, hvk⟩ := at16 v HV.out.2.2.2.2.1 k hk
      have y0 := hO.cell k vk (by rw [fin_at _ _ _ _ (by omega) (by rw [HV.out.2.2.2.2.1]; omega)]; exact hvk)
      have y1 := hO.frozen k
      have hgk : v.getD k 0 = vk := by rw [List.getD_eq_getElem?_getD, hvk]; rfl
      have hvl := HV.out.2.2.2.2.1
      rcases k with _ | k
      ·have hsh : shB v 0 = vk >>> 1 := by unfold shB; rw [if_neg (by omega), hgk]
       have HO := Lib.hid (And.intro hO (And.intro hT hsh))
       clear hO hT hsh hvk hgk hvl
       go_wp2_with fail
       have h1 := HO.out.1.set_ 0 (vk >>> 1) (by omega)
       rw [fin_set 0 (shL v) v _ (by rw [shL_at v 0 (by omega), HO.out.2.2]) (by rw [HV.out.2.2.2.2.1]; omega), fin_zero] at h1
       exact ⟨⟨.inr ⟨rfl, h1⟩, HO.out.2.1.setCell (p := ⟨gv, 0, none⟩) (.inl (by simp)) _⟩, by simp [intOf]⟩
      ·obtain ⟨vj, hvj⟩ := at16 v hvl k (by omega)
       have y2 := hO.cell k vj (by rw [fin_at _ _ _ _ (by omega) (by rw [hvl]; omega)]; exact hvj)
       have hgj : v.getD k 0 = vj := by rw [List.getD_eq_getElem?_getD, hvj]; rfl
       have hk1 : (0 : Int) < (k : Int) + 1 := by omega
       have hk2 : ¬ k = k + 1 := by omega
       have hsh : shB v (k + 1) = if isN (vj &&& 1) 1 = true then (vk >>> 1) + 128 else vk >>> 1 := by
        unfold shB
        rw [Nat.add_sub_cancel, hgj, hgk]
        by_cases hb : isN (vj &&& 1) 1 = true
        ·rw [if_pos ⟨by omega, hb⟩, if_pos hb]
        ·rw [if_neg (fun h => hb h.2), if_neg hb]
       have HO := Lib.hid (And.intro hO (And.intro hT hsh))
       clear hO hT hsh hvk hgk hvj hgj hvl
       by_cases hb : isN (vj &&& 1) 1 = true
       ·go_wp2_with fail
        have h1 := (HO.out.1.set_ (k + 1) (vk >>> 1) (by omega)).set_ (k + 1) (vk >>> 1 + 128) (by omega)
        rw [List.set_set, fin_set (k + 1) (shL v) v _ (by rw [shL_at v (k + 1) (by omega), HO.out.2.2, if_pos hb]) (by rw [HV.out.2.2.2.2.1]; omega)] at h1
        exact ⟨⟨.inl ⟨k, by omega, rfl, h1⟩, (HO.out.2.1.setCell (p := ⟨gv, k + 1, none⟩) (.inl (by simp)) _).setCell (p := ⟨gv, k + 1, none⟩) (.inl (by simp)) _⟩, by simp [intOf]; omega⟩
       ·have hb' : isN (vj &&& 1) 1 = false := by simpa using hb
        go_wp2_with fail
        have h1 := HO.out.1.set_ (k + 1) (vk >>> 1) (by omega)
        rw [fin_set (k + 1) (shL v) v _ (by rw [shL_at v (k + 1) (by omega), HO.out.2.2, if_neg hb]) (by rw [HV.out.2.2.2.2.1]; omega)] at h1
        exact ⟨⟨.inl ⟨k, by omega, rfl, h1⟩, HO.out.2.1.setCell (p := ⟨gv, k + 1, none⟩) (.inl (by simp)) _⟩, by simp [intOf]; omega⟩
     ·have hm1 : ¬ (0 : Int) ≤ -1 := by omega
      have hl0 := shL_at v 0 (by omega)
      have y0 := hO.cell 0 _ hl0
      have y1 := hO.frozen 0
      have HO := Lib.hid (And.intro hO hT)
      clear hO hT hl0
      cases t8 with
      | true =>
       go_wp2_with fail
       have hrs : rS v = (shL v).set 0 (shB v 0 ^^^ 225) := by unfold rS; rw [HB15.out, if_pos hT8]
       have hT9 : Turn [gv] wc (wr.setCell ⟨gv, 0, none⟩ (B (shB v 0 ^^^ 225))) := HO.out.2.setCell (p := ⟨gv, 0, none⟩) (.inl (by simp)) _
       have h1 := HO.out.1.set_ 0 (shB v 0 ^^^ 225) (by omega)
       go_roundw
       case rel =>
        refine ⟨i + 1, gn, cn, by omega, rfl, by go_num, hne2, ?_, ?_, below_turn HV.out.2.2.1 hT9 (by simp; omega) (by rw [← hX]; exact Nat.le_trans (Nat.le_refl _) (by have := HV.out.2.2.1.size; omega))⟩
        ·rw [HR.out.1]; exact HV.out.1.turn hT9 (fun g hg hm => by cases hg; simp at hm; exact hne2 hm)
        ·rw [HR.out.1, hrs]; exact h1
       case measure => simp [intOf]; omega
      | false =>
       go_wp2_with fail
       have hrs : rS v = shL v := by unfold rS; rw [HB15.out, if_neg (by rw [hT8]; simp)]
       go_roundw
       case rel =>
        refine ⟨i + 1, gn, cn, by omega, rfl, by go_num, hne2, ?_, ?_, below_turn HV.out.2.2.1 HO.out.2 (by simp; omega) (by rw [← hX]; have := HV.out.2.2.1.size; omega)⟩
        ·rw [HR.out.1]; exact HV.out.1.turn HO.out.2 (fun g hg hm => by cases hg; simp at hm; exact hne2 hm)
        ·rw [HR.out.1, hrs]; exact HO.out.1
       case measure => simp [intOf]; omega
  ·obtain rfl : i = 128 := by omega
   have hq : ¬ ((128 : Int) < 128) := by omega
   have HS := Lib.hid (And.intro hz hB)
   clear hz hv hB hi hlt
   go_wp2_with fail
   go_ret
   exact ⟨gz, cz, rfl, HS.out.1, HS.out.2⟩
end Go.Proofs.YtgjnmpjimhbfgaaGreatDoor
