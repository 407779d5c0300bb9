/-
  The reference's cipher in memory; its mix.
  The reference's Decrypt.
  Rows of values of any kind that are the call's own: append of one that lies in memory.
-/
import Derived.Test.YtiocmebcbhbcmaaAesBx
import Derived.Test.YtiocmebcbhbcmaaZzAesQ
import Derived.StillTailTactics
import Derived.Deep.DeepCutAuto
import Derived.Deep.CutBlock
import Derived.Test.YtiocmebcbhbcmaaWords
import Derived.Maps.AppendAt
namespace Go.Proofs.Ytiocmebcbhbcmaa
open Go.RowKit

/-- The reference's cipher: c its place; block kb holds the round keys' slices. -/
def RCip (W : World) (c kb R cap g1 g2 : Nat) (ks : List UInt8) : Prop :=
  Blk W c 67 #[.slice (some ⟨kb, 0, none⟩) R cap, .slice (some ⟨g1, 0, none⟩) 256 256, .slice (some ⟨g2, 0, none⟩) 256 256] ∧ kb < W.heap.size ∧ ks.length = 16 * R ∧ 11 ≤ R ∧ R ≤ 15 ∧ R ≤ cap ∧
  (∀ i, i < R → ∃ gk o, W.cell? ⟨kb, i, none⟩ = some (.slice (some ⟨gk, o, none⟩) 16 16) ∧ Rd W (some ⟨gk, o, none⟩) 16 16 (key ks i)) ∧ Rd W (some ⟨g1, 0, none⟩) 256 256 boxL ∧ Rd W (some ⟨g2, 0, none⟩) 256 256 invL
theorem RCip.below {W W' : World} {c kb R cap g1 g2 : Nat} {ks : List UInt8} (h : RCip W c kb R cap g1 g2 ks) (hb : Below W.heap.size W W') : RCip W' c kb R cap g1 g2 ks := by
  obtain ⟨h1, h2, h3, h4, h5, h6, h7, h8, h9⟩ := h
  refine ⟨h1.below hb, Nat.lt_of_lt_of_le h2 hb.size, h3, h4, h5, h6, fun i hi => ?_, h8.below hb, h9.below hb⟩
  obtain ⟨gk, o, a, b⟩ := h7 i hi
  exact ⟨gk, o, by rw [hb.cell (p := ⟨kb, i, none⟩) h2]; exact a, b.below hb⟩
/-- The mixed bytes, all at once. -/
def rmix (l fs : List UInt8) : List UInt8 := (List.range 16).map fun p => mixB l fs (4 * (p / 4)) (p % 4) 4
theorem rmix_len (l fs : List UInt8) : (rmix l fs).length = 16 := by simp [rmix]
theorem rmix_at (l fs : List UInt8) (p : Nat) (h : p < 16) : (rmix l fs)[p]? = some (mixB l fs (4 * (p / 4)) (p % 4) 4) := by unfold rmix; rw [List.getElem?_map, List.getElem?_range h]; rfl
theorem rmix_eq (l : List UInt8) (f0 f1 f2 f3 : UInt8) (h : l.length = 16) : rmix l [f0, f1, f2, f3] = mixN l [f0, f1, f2, f3] 4 := by
  obtain ⟨x0, x1, x2, x3, x4, x5, x6, x7, x8, x9, x10, x11, x12, x13, x14, x15, rfl⟩ := list16 l h
  rfl
theorem rtimes_still (b f : UInt8) (w : World) : Calls Try.prog 59 #[B b, B f] w fun e w' => e = .returned (B (gm b f)) ∧ w' = w := (rtimes_any b f w).mono fun _ _ h => ⟨h.1, h.2.symm⟩
set_option maxRecDepth 100000 in
set_option maxHeartbeats 2000000 in
theorem rmix_any (A C : Option Addr) (ca cc : Nat) (l fs : List UInt8) (w : World) (hl : Rd w A 16 ca l) (hf : Rd w C 4 cc fs) :
    Calls Try.prog 60 #[.slice A 16 ca, .slice C 4 cc] w fun e w' => e = .returned (.slice (some ⟨w.heap.size, 0, none⟩) 16 16) ∧ Own w' w.heap.size (.slice (some ⟨w.heap.size, 0, none⟩) 16 16) (rmix l fs) ∧ Below w.heap.size w w' := by
  have hll : l.length = 16 := hl.1.symm
  have hfl : fs.length = 4 := hf.1.symm
  have hca := hl.2.1
  have hcc := hf.2.1
  obtain ⟨bl, ol, rfl, hal⟩ := hl.addr (by omega)
  obtain ⟨bf, of_, rfl, haf⟩ := hf.addr (by omega)
  obtain ⟨X, hX⟩ : ∃ X, w.heap.size = X := ⟨_, rfl⟩
  have hmk := Try.prog_make 16 (by omega) w
  obtain ⟨w1, hw1⟩ : ∃ w1, w.alloc (.cells (madeCells #[.int .u8 0] 16) 5) = w1 := ⟨_, rfl⟩
  have hO1 : Own w1 X (.slice (some ⟨X, 0, none⟩) 16 16) (zs 16) := by rw [← hw1, ← hX]; exact Own.made w 16 (by unfold maxLen; omega)
  have hB1 : Below X w w1 := by rw [← hw1, ← hX]; exact (Below.refl _ _).alloc (Nat.le_refl _) _
  rw [hw1, hX, show ((16 : Nat) : Int) = 16 from rfl] at hmk
  have hblX : bl < X := by rw [← hX]; exact hal.1
  have hbfX : bf < X := by rw [← hX]; exact haf.1
  have HH := Lib.hid (And.intro hal (And.intro haf (And.intro hll (And.intro hfl (And.intro hO1 hB1)))))
  clear hal haf hl hf hll hfl hO1 hB1 hw1
  rw [hX]
  go_enter Try.func60, Try.ntmps60
  go_wp2_with fail
  clear hmk
  go_loopw [6] (fun iv wr => ∃ i : Nat, i ≤ 4 ∧ iv = .int .i64 (i : Int) ∧ Own wr X (.slice (some ⟨X, 0, none⟩) 16 16) (mid (4 * i) (rmix l fs) (zs 16)) ∧ Below X w wr) (fun iv _ => 4 - (intOf iv).toNat)
  case atStart => exact ⟨0, by omega, rfl, by rw [Nat.mul_zero, mid_zero]; exact HH.out.2.2.2.2.1, HH.out.2.2.2.2.2⟩
  case round =>
    obtain ⟨i, hi, rfl, hO, hB⟩ := hrel
    by_cases hlt : i < 4
    · have hq : (i : Int) < 4 := by omega
      have HO := Lib.hid (And.intro hO hB)
      clear hO hB
      go_wp2_with fail
      go_loopw [7] (fun rv wz => ∃ r : Nat, r ≤ 4 ∧ rv = .int .i64 (r : Int) ∧ Own wz X (.slice (some ⟨X, 0, none⟩) 16 16) (mid (4 * i + r) (rmix l fs) (zs 16)) ∧ Below X w wz) (fun rv _ => 4 - (intOf rv).toNat)
      case atStart => exact ⟨0, by omega, rfl, HO.out.1, HO.out.2⟩
      case round =>
        obtain ⟨r, hr, rfl, hO, hB⟩ := hrel
        clear HO
        by_cases hrlt : r < 4
        · have hrq : (r : Int) < 4 := by omega
          have HO := Lib.hid (And.intro hO hB)
          clear hO hB
          go_wp2_with fail
          go_loopw [8, 9] (fun xv kv wy => ∃ k : Nat, k ≤ 4 ∧ kv = .int .i64 (k : Int) ∧ xv = B (mixB l fs (4 * i) r k) ∧ Own wy X (.slice (some ⟨X, 0, none⟩) 16 16) (mid (4 * i + r) (rmix l fs) (zs 16)) ∧ Below X w wy) (fun _ kv _ => 4 - (intOf kv).toNat)
          case atStart => exact ⟨0, by omega, rfl, rfl, HO.out.1, HO.out.2⟩
          case round =>
            obtain ⟨k, hk, rfl, rfl, hO, hB⟩ := hrel
            clear HO
            by_cases hklt : k < 4
            · have hkq : (k : Int) < 4 := by omega
              obtain ⟨x, hx⟩ := at16 l HH.out.2.2.1 (4 * i + k) (by omega)
              obtain ⟨p, hp⟩ : ∃ p, p = (k + 4 - r) % 4 := ⟨_, rfl⟩
              have hp4 : p < 4 := by omega
              obtain ⟨f, hf⟩ := at4 fs HH.out.2.2.2.1 p hp4
              have y2 : wr.cell? ⟨bl, ol + (4 * i + k), none⟩ = some (B x) := by rw [hB.cell (p := ⟨bl, ol + (4 * i + k), none⟩) hblX]; exact HH.out.1.2 _ x hx
              have y3 : wr.cell? ⟨bf, of_ + p, none⟩ = some (B f) := by rw [hB.cell (p := ⟨bf, of_ + p, none⟩) hbfX]; exact HH.out.2.1.2 _ f hf
              have g0 : IntKind.i64.wrap ((k : Int) - r) = (k : Int) - r := IntWalk.i64_in _ (by omega)
              have g1 : IntKind.i64.wrap ((k : Int) - r + 4) = (k : Int) - r + 4 := IntWalk.i64_in _ (by omega)
              have g2 : ((k : Int) - r + 4).tmod 4 = (p : Int) := by rw [Int.tmod_eq_emod_of_nonneg (by omega)]; omega
              have g2' : ((k : Int) - r + 4) % 4 = (p : Int) := by omega
              have g3 : (p : Int) < 4 := by omega
              have g5 : (4 : Int) * i + k < 16 := by omega
              have g6 : IntKind.i64.wrap ((4 : Int) * i + k) = (4 : Int) * i + k := IntWalk.i64_in _ (by omega)
              have g6' : IntKind.i64.wrap ((4 : Int) * i) = (4 : Int) * i := IntWalk.i64_in _ (by omega)
              have g7 : ((4 : Int) * i + k).toNat = 4 * i + k := by omega
              have g8 : (0 : Int) ≤ 4 * i + k := by omega
              have g9 : (4 : Int) * i + k < ca := by omega
              have g10 : (p : Int) < cc := by omega
              have hnew : mixB l fs (4 * i) r (k + 1) = mixB l fs (4 * i) r k ^^^ gm x f := by
                show mixB l fs (4 * i) r k ^^^ gm (l.getD (4 * i + k) 0) (fs.getD ((k + 4 - r) % 4) 0) = _
                rw [← hp, List.getD_eq_getElem?_getD, hx, List.getD_eq_getElem?_getD, hf]; rfl
              have HB := Lib.hid (And.intro hO (And.intro hB hnew))
              generalize mixB l fs (4 * i) r k = Z at *
              clear hO hB hnew hx hf hp
              go_wp2_with fail
              go_still_tail 18, (by kernel_rfl)
              still_call (rtimes_still x f _)
              repeat still_step
              try refine wpStill_nil ?_
              go_wp2_with fail
              go_roundw
              case rel => exact ⟨k + 1, by omega, by go_num, by rw [HB.out.2.2], HB.out.1, HB.out.2.1.drew⟩
              case measure => simp [intOf]; omega
            · obtain rfl : k = 4 := by omega
              have hkq : ¬ ((4 : Int) < 4) := by omega
              obtain ⟨z, hz⟩ := at16 (mid (4 * i + r) (rmix l fs) (zs 16)) hO.len.symm (4 * i + r) (by omega)
              have y0 := hO.cell _ z hz
              have y1 := hO.frozen (4 * i + r)
              have g5 : (4 : Int) * i + r < 16 := by omega
              have g6 : IntKind.i64.wrap ((4 : Int) * i + r) = (4 : Int) * i + r := IntWalk.i64_in _ (by omega)
              have g6' : IntKind.i64.wrap ((4 : Int) * i) = (4 : Int) * i := IntWalk.i64_in _ (by omega)
              have g7 : ((4 : Int) * i + r).toNat = 4 * i + r := by omega
              have g8 : (0 : Int) ≤ 4 * i + r := by omega
              have hat := rmix_at l fs (4 * i + r) (by omega)
              rw [show (4 * i + r) / 4 = i by omega, show (4 * i + r) % 4 = r by omega] at hat
              have HB := Lib.hid (And.intro hO (And.intro hB hat))
              generalize mixB l fs (4 * i) r 4 = Z at *
              clear hO hB hat hz hk hklt
              go_wp2_with fail
              have h1 := HB.out.1.set_ (4 * i + r) Z (by omega)
              rw [mid_set _ _ _ _ HB.out.2.2 (by rw [zs_len]; omega)] at h1
              have hT : Turn [X] wr (wr.setCell ⟨X, 4 * i + r, none⟩ (B Z)) := (Turn.refl _ _).setCell (p := ⟨X, 4 * i + r, none⟩) (.inl (by simp)) _
              go_roundw
              case rel => exact ⟨r + 1, by omega, by go_num, h1, below_turn HB.out.2.1 hT (by simp) (by rw [← hX]; exact HB.out.2.1.size)⟩
              case measure => simp [intOf]; omega
        · obtain rfl : r = 4 := by omega
          have hrq : ¬ ((4 : Int) < 4) := by omega
          have HB := Lib.hid (And.intro hO hB)
          clear hO hB hr hrlt
          go_wp2_with fail
          go_roundw
          case rel => exact ⟨i + 1, by omega, by go_num, by rw [Nat.mul_add]; exact HB.out.1, HB.out.2⟩
          case measure => simp [intOf]; omega
    · obtain rfl : i = 4 := by omega
      have hq : ¬ ((4 : Int) < 4) := by omega
      rw [mid_all _ _ 16 (rmix_len l fs) (zs_len 16)] at hO
      have HB := Lib.hid (And.intro hO hB)
      clear hO hB hi hlt
      go_wp2_with fail
      go_ret
      exact ⟨rfl, HB.out.1, HB.out.2⟩
end Go.Proofs.Ytiocmebcbhbcmaa
namespace Go.Proofs.Ytiocmebcbhbcmaa
open Go.RowKit

set_option maxRecDepth 100000 in
set_option maxHeartbeats 4000000 in
theorem rdec_any (c kb R cap g1 g2 : Nat) (ks : List UInt8) (A : Option Addr) (cb : Nat) (l : List UInt8) (w : World) (h : RCip w c kb R cap g1 g2 ks) (hr : Rd w A 16 cb l) :
    Calls Try.prog 32 #[.pointer (some ⟨c, 0, none⟩), .slice A 16 cb] w fun e w' => ∃ g : Nat, e = .returned (.slice (some ⟨g, 0, none⟩) 16 16) ∧ Own w' w.heap.size (.slice (some ⟨g, 0, none⟩) 16 16) (decL ks R l) ∧ Below w.heap.size w w' := by
  have hR1 : 11 ≤ R := h.2.2.2.1
  have hR2 : R ≤ 15 := h.2.2.2.2.1
  have hcap : R ≤ cap := h.2.2.2.2.2.1
  have hR2' : (R : Int) ≤ 15 := by omega
  have hR1' : (11 : Int) ≤ R := by omega
  obtain ⟨X, hX⟩ : ∃ X, w.heap.size = X := ⟨_, rfl⟩
  have hin : ∀ W, Below X w W → W.cell? ⟨c, 0, none⟩ = some (.slice (some ⟨kb, 0, none⟩) R cap) ∧ W.cell? ⟨c, 2, none⟩ = some (.slice (some ⟨g2, 0, none⟩) 256 256) := fun W hb => by
    have h1 := (h.below (by rw [hX]; exact hb)).1
    exact ⟨by rw [h1.cell 0]; rfl, by rw [h1.cell 2]; rfl⟩
  have hkey : ∀ W i, i < R → Below X w W → ∃ gk o, W.cell? ⟨kb, i, none⟩ = some (.slice (some ⟨gk, o, none⟩) 16 16) ∧ Rd W (some ⟨gk, o, none⟩) 16 16 (key ks i) := fun W i hi hb => (h.below (by rw [hX]; exact hb)).2.2.2.2.2.2.1 i hi
  have hbox : ∀ W, Below X w W → Rd W (some ⟨g2, 0, none⟩) 256 256 invL := fun W hb => (h.below (by rw [hX]; exact hb)).2.2.2.2.2.2.2.2
  obtain ⟨z0, z1⟩ := hin w (Below.refl _ _)
  have HI := Lib.hid (And.intro hin (And.intro hkey hbox))
  have hlen : l.length = 16 := hr.1.symm
  have hksl := h.2.2.1
  have HL := Lib.hid (And.intro hlen (And.intro hksl hr))
  have z5 : (0 : Int) ≤ R := by omega
  have q4 : IntKind.i64.wrap ((R : Int) - 1) = (R : Int) - 1 := IntWalk.i64_in _ (by omega)
  clear hin hkey hbox h hr hlen hksl
  rw [hX]
  go_enter Try.func32, Try.ntmps32
  go_wp2_with fail
  clear z0 z1
  go_loopw [6, 7] (fun xv iv wr => ∃ (i : Nat) (Ax : Option Addr) (cx : Nat) (s : List UInt8), i < R ∧ xv = .slice Ax 16 cx ∧ iv = .int .i64 (i : Int) ∧ Rd wr Ax 16 cx s ∧ decF ks R i s = decL ks R l ∧ Below X w wr) (fun _ iv _ => (intOf iv).toNat)
  case atStart => exact ⟨R - 1, A, cb, l, by omega, rfl, by go_num, HL.out.2.2, rfl, Below.refl _ _⟩
  case round =>
    obtain ⟨i, Ax, cx, s, hi2, rfl, rfl, hx, hd, hB⟩ := hrel
    obtain ⟨gq, oq, k0, k1⟩ := HI.out.2.1 wr i hi2 hB
    obtain ⟨u0, u1⟩ := HI.out.1 wr hB
    have hsl : s.length = 16 := hx.1.symm
    have hkl := key_len ks R i HL.out.2.1 hi2
    have hxo := rxor_any _ _ _ _ _ _ wr hx k1
    have hs : X ≤ wr.heap.size := by rw [← hX]; exact hB.size
    have HXo := Lib.hid hxo
    rcases i with _ | i
    · have hq : ¬ ((1 : Int) ≤ ((0 : Nat) : Int)) := by omega
      have HS := Lib.hid (And.intro hd hB)
      clear hx hd hB k1 hxo hsl hkl hi2
      go_wp2_with (go_at_call 52; go_must (refine HXo.out.mono ?_); rintro e w5 ⟨rfl, ho5, hb5⟩; have H5 := Lib.hid (And.intro ho5 hb5); clear ho5 hb5)
      go_ret
      exact ⟨_, rfl, by rw [← HS.out.1]; exact H5.out.1.mono hs, HS.out.2.trans (H5.out.2.mono hs)⟩
    · have hq : (1 : Int) ≤ (i : Int) + 1 := by omega
      have hiR : (i : Int) + 1 < R := by omega
      have hxl := xorL_len _ _ 16 hsl hkl
      have hdn : decF ks R (i + 1) s = decF ks R i (decN (decM R (i + 1) (xorL s (key ks (i + 1)))) 16) := rfl
      generalize hs1 : xorL s (key ks (i + 1)) = s1 at *
      have HS := Lib.hid (And.intro (hdn.symm.trans hd) (And.intro hB (And.intro hxl hi2)))
      clear hx hd hB k1 hxo hsl hkl hi2 hxl hdn hs1
      go_upto_if 33 with (go_at_call 52; go_must (refine HXo.out.mono ?_); rintro e w5 ⟨rfl, ho5, hb5⟩; have H5 := Lib.hid (And.intro ho5 hb5); clear ho5 hb5)
      have hB5 := HS.out.2.1.trans (H5.out.2.mono hs)
      have HY := Lib.hid (And.intro (H5.out.1.mono hs) hB5)
      clear hB5
      go_cut [8] from 18 to 59 (fun yv wx => ∃ gy, yv = .slice (some ⟨gy, 0, none⟩) 16 16 ∧ Own wx X (.slice (some ⟨gy, 0, none⟩) 16 16) (decM R (i + 1) s1) ∧ Below X w wx)
      case first =>
        by_cases hm : i + 1 < R - 1
        · have hm2 : (i : Int) + 1 < (R : Int) - 1 := by omega
          have hm' : decide ((i : Int) + 1 < (R : Int) - 1) = true := decide_eq_true hm2
          obtain ⟨wf, hwf⟩ : ∃ wf, w5.alloc (.cells #[.int .u8 14, .int .u8 11, .int .u8 13, .int .u8 9] 5) = wf := ⟨_, rfl⟩
          have hF : Rd wf (some ⟨w5.heap.size, 0, none⟩) 4 4 [14, 11, 13, 9] := by rw [← hwf]; exact rd_lit (l2 := [14, 11, 13, 9]) rfl rfl (by omega)
          have hyf : Rd wf (some ⟨wr.heap.size, 0, none⟩) 16 16 s1 := by rw [← hwf]; exact (HY.out.1.alloc_ _).rd
          have hBf : Below X w wf := by rw [← hwf]; exact HY.out.2.alloc (by rw [← hX]; exact HY.out.2.size) _
          have hmx := rmix_any _ _ _ _ _ _ wf hyf hF
          rw [rmix_eq _ _ _ _ _ HS.out.2.2.1] at hmx
          have HM := Lib.hid (And.intro hmx hBf)
          have hdm : decM R (i + 1) s1 = mixN s1 [14, 11, 13, 9] 4 := by unfold decM; rw [if_pos hm]
          have HDM := Lib.hid hdm
          clear hmx hdm hF hyf hBf
          go_wp2_with (go_at_call 60; go_must (refine HM.out.1.mono ?_); rintro e w4 ⟨rfl, ho4, hb4⟩; have H4 := Lib.hid (And.intro ho4 hb4); clear ho4 hb4)
          go_meet
          case rel =>
            have hs2 : X ≤ wf.heap.size := by rw [← hX]; exact HM.out.2.size
            exact ⟨_, rfl, by rw [HDM.out]; exact H4.out.1.mono hs2, HM.out.2.trans (H4.out.2.mono hs2)⟩
        · have hm2 : ¬ ((i : Int) + 1 < (R : Int) - 1) := by omega
          have hm' : decide ((i : Int) + 1 < (R : Int) - 1) = false := decide_eq_false hm2
          have hdm : decM R (i + 1) s1 = s1 := by unfold decM; rw [if_neg hm]
          have HDM := Lib.hid hdm
          clear hdm
          go_wp2_with fail
          go_meet
          case rel => exact ⟨_, rfl, by rw [HDM.out]; exact HY.out.1, HY.out.2⟩
      case rest =>
        obtain ⟨gy, rfl, hy2, hB2⟩ := hcut
        have hs2l : (decM R (i + 1) s1).length = 16 := decM_len _ _ _ HS.out.2.2.1
        have hdd := HS.out.1
        generalize decM R (i + 1) s1 = s2 at *
        have hmk := Try.prog_make 16 (by omega) wc
        rw [show ((16 : Nat) : Int) = 16 from rfl] at hmk
        obtain ⟨wd, hwd⟩ : ∃ wd, wc.alloc (.cells (madeCells #[.int .u8 0] 16) 5) = wd := ⟨_, rfl⟩
        have hOy := Own.made wc 16 (by unfold maxLen; omega)
        rw [hwd] at hmk hOy
        have hBd : Below X w wd := by rw [← hwd]; exact hB2.alloc (by rw [← hX]; exact hB2.size) _
        have hXc : X ≤ wc.heap.size := by rw [← hX]; exact hB2.size
        have hgl := (hy2.lt (g := gy) rfl).2
        have hyd : Own wd X (.slice (some ⟨gy, 0, none⟩) 16 16) s2 := by rw [← hwd]; exact hy2.alloc_ _
        generalize wc.heap.size = Y at *
        have HR := Lib.hid (And.intro hBd (And.intro hyd (And.intro hOy (And.intro hs2l hdd))))
        clear hy2 hB2 hBd hyd hOy hs2l hdd hwd HY H5 u0 u1 k0
        go_wp2_with fail
        clear hmk
        go_loopw [9] (fun kv wz => ∃ k : Nat, k ≤ 16 ∧ kv = .int .i64 (k : Int) ∧ Own wz Y (.slice (some ⟨Y, 0, none⟩) 16 16) (decN s2 k) ∧ Turn [Y] wd wz) (fun kv _ => 16 - (intOf kv).toNat)
        case atStart => exact ⟨0, by omega, rfl, HR.out.2.2.1, Turn.refl _ _⟩
        case round =>
          obtain ⟨k, hk, rfl, hA, hT⟩ := hrel
          have hBz := below_turn HR.out.1 hT (by simp; exact hXc) (by rw [← hX]; exact HR.out.1.size)
          have hyz := HR.out.2.1.turn hT (fun q hq hm => by cases hq; simp at hm; omega)
          by_cases hklt : k < 16
          · have hkq : (k : Int) < 16 := by omega
            obtain ⟨u0, u1⟩ := HI.out.1 wr hBz
            obtain ⟨m, hm⟩ : ∃ m, m = k % 4 := ⟨_, rfl⟩
            obtain ⟨p, hp⟩ : ∃ p, p = shp k := ⟨_, rfl⟩
            have hp' : p = (k + k % 4 * 4) % 16 := hp
            have hp16 : p < 16 := by omega
            obtain ⟨x, hxx⟩ := at16 s2 HR.out.2.2.2.1 k hklt
            have e3 : (x.toNat : Int) < 256 := by have := x.toNat_lt; omega
            have y1 := hyz.cell k x hxx
            have y2 : wr.cell? ⟨g2, x.toNat, none⟩ = some (B (si x)) := by
              have hbx := HI.out.2.2 wr hBz
              obtain ⟨b, off, e, ha⟩ := hbx.addr (by omega)
              cases e
              have := ha.2 x.toNat _ (inv_at x)
              rwa [Nat.zero_add] at this
            obtain ⟨z, hz⟩ := at16 (decN s2 k) hA.len.symm p hp16
            have y3 := hA.cell p z hz
            have y4 := hA.frozen p
            have g0 : (k : Int).tmod 4 = (m : Int) := by rw [Int.tmod_eq_emod_of_nonneg (by omega)]; omega
            have g0' : (k : Int) % 4 = (m : Int) := by omega
            have g3 : IntKind.i64.wrap (4 * (m : Int)) = 4 * (m : Int) := IntWalk.i64_in _ (by omega)
            have g2 : IntKind.i64.wrap ((k : Int) + 4 * (m : Int)) = (k : Int) + 4 * (m : Int) := IntWalk.i64_in _ (by omega)
            have g6 : ((k : Int) + 4 * (m : Int)).tmod 16 = (p : Int) := by rw [Int.tmod_eq_emod_of_nonneg (by omega)]; omega
            have g6' : ((k : Int) + 4 * (m : Int)) % 16 = (p : Int) := by omega
            have g4 : (p : Int) < 16 := by omega
            have hnew : decN s2 (k + 1) = (decN s2 k).set p (si x) := by
              show (decN s2 k).set (shp k) (si (s2.getD k 0)) = _
              rw [← hp, List.getD_eq_getElem?_getD, hxx]; rfl
            have HB := Lib.hid (And.intro hA (And.intro hT hnew))
            clear hA hT hBz hyz hxx hz hp hp' hm hnew
            go_wp2_with fail
            go_still_tail 18, (by kernel_rfl)
            go_wp2_with fail
            have h1 := HB.out.1.set_ p (si x) hp16
            go_roundw
            case rel => exact ⟨k + 1, by omega, by go_num, by rw [HB.out.2.2]; exact h1, (HB.out.2.1.setCell (p := ⟨Y, p, none⟩) (.inl (by simp)) _).drew⟩
            case measure => simp [intOf]; omega
          · obtain rfl : k = 16 := by omega
            have hkq : ¬ ((16 : Int) < 16) := by omega
            have HB := Lib.hid (And.intro hA hBz)
            clear hA hT hBz hyz hk hklt
            go_wp2_with fail
            have hfin : i < R := by have := HS.out.2.2.2; omega
            go_roundw
            case rel => exact ⟨i, some ⟨Y, 0, none⟩, 16, decN s2 16, hfin, rfl, by go_num, HB.out.1.rd, HR.out.2.2.2.2, HB.out.2⟩
            case measure => first | (simp [intOf]; done) | (simp [intOf]; omega)
end Go.Proofs.Ytiocmebcbhbcmaa
namespace Go.Proofs.Ytiocmebcbhbcmaa
open Go.RowKit

/-- A row of values of the call's own (R elements of type E, sz cells each). -/
def OwnR (W : World) (base : Nat) (E : TypeId) (sz : Nat) (v : Value) (R : Nat) (vs : List Value) : Prop := W.ownsRow base E sz v R vs
section
variable {w w' : World} {base sz R : Nat} {E : TypeId} {v : Value} {l : List Value}
theorem OwnR.nil (w : World) (base : Nat) (E : TypeId) (sz : Nat) : OwnR w base E sz (.slice none 0 0) 0 [] := World.ownsRow_nil _ _ _ _
theorem OwnR.keep (h : OwnR w base E sz v R l) (hk : ∀ g, v.ownBlock = some g → w'.heap[g]? = w.heap[g]?) : OwnR w' base E sz v R l := by
  obtain ⟨h1, h2⟩ := h
  refine ⟨h1, ?_⟩
  rcases h2 with h2 | ⟨g, cap, cur, rfl, hg, hh, r⟩
  · exact .inl h2
  · exact .inr ⟨g, cap, cur, rfl, hg, (hk g rfl).trans hh, r⟩
theorem OwnR.lt (h : OwnR w base E sz v R l) {g : Nat} (hg : v.ownBlock = some g) : base ≤ g ∧ g < w.heap.size := World.ownsRow.lt h g hg
theorem OwnR.turn {S : List Nat} (h : OwnR w base E sz v R l) (ht : Turn S w w') (hn : ∀ g, v.ownBlock = some g → g ∉ S) : OwnR w' base E sz v R l :=
  h.keep fun g hg => ht.block g (h.lt hg).2 (hn g hg)
theorem OwnR.below (h : OwnR w base E sz v R l) (ht : Below w.heap.size w w') : OwnR w' base E sz v R l :=
  h.keep fun g hg => ht.block g (h.lt hg).2
theorem OwnR.alloc_ (h : OwnR w base E sz v R l) (o : Obj) : OwnR (w.alloc o) base E sz v R l :=
  h.keep fun g hg => ((Below.refl w.heap.size w).alloc (Nat.le_refl _) o).block g (h.lt hg).2
theorem OwnR.len (h : OwnR w base E sz v R l) : l.length = R * sz := h.1
theorem OwnR.form (h : OwnR w base E sz v R l) (hR : 0 < R) (hz : 0 < sz) :
    ∃ g c, v = .slice (some ⟨g, 0, none⟩) R c ∧ base ≤ g ∧ g < w.heap.size ∧ R ≤ c ∧ c ≤ maxLen ∧ ∀ j x, l[j]? = some x → w.cell? ⟨g, j, none⟩ = some x := by
  have h' := h
  obtain ⟨h1, h2⟩ := h
  rcases h2 with ⟨rfl, h0⟩ | ⟨g, cap, cur, rfl, hg, hh, hnc, hm, hcs, htk⟩
  · omega
  · refine ⟨g, cap, rfl, hg, (h'.lt (g := g) rfl).2, hnc, hm, fun j x hx => ?_⟩
    have := World.ownsRow.cells h' (g := g) rfl j x hx
    rwa [show (⟨g, 0, none⟩ : Addr).add j = ⟨g, j, none⟩ by rw [Addr.add_mid, Nat.zero_add]] at this
theorem OwnR.shape (h : OwnR w base E sz v R l) : ∃ A c, v = .slice A R c ∧ R ≤ c := by
  obtain ⟨h1, h2⟩ := h
  rcases h2 with ⟨rfl, h0⟩ | ⟨g, cap, cur, rfl, hg, hh, hnc, hm, hcs, htk⟩
  · subst h0; exact ⟨none, 0, rfl, Nat.le_refl _⟩
  · exact ⟨_, _, rfl, hnc⟩
end
/-- What a kind of element is: its zero, its cells, its bytes. -/
structure RowT (P : Program) (SL E : TypeId) (z : Value) (sz bytes : Nat) : Prop where
  hu : P.underlying SL = some (.slice E)
  hi : (P.info? E).map (fun i => (i.zero, i.size, i.bytes)) = some (some z, sz, bytes)
  hz : z.cells.size = sz
  hsz : 0 < sz
theorem op_appR {P : Program} {SL E : TypeId} {z : Value} {sz bytes : Nat} (T : RowT P SL E z sz bytes) {o : Oper} {a : Act} {w : World} {K : Act → World → Prop} {Q : Exit → Act → World → Prop} (s x : Operand)
    (ho : o.op = .call { callee := .builtin .append, args := #[s, x], argTypes := #[SL, SL] })
    (base R : Nat) (v : Value) (xs : List Value) (hs : a.eval s = v) (hown : OwnR w base E sz v R xs) (b off m c : Nat) (news : List Value) (hx : a.eval x = .slice (some ⟨b, off, none⟩) m c) (hl : news.length = m * sz)
    (hc : ∀ j u, news[j]? = some u → w.cell? ⟨b, off + j, none⟩ = some u) (h1 : ∀ u ∈ news, u.oneCell' = true) (hR : R + m ≤ maxLen) (hby : (R + m) * bytes ≤ 140737488355328) (hbase : base ≤ w.heap.size)
    (h : ∀ v' w', OwnR w' base E sz v' (R + m) (xs ++ news) → w.grownBy w' v.ownBlock → (v'.ownBlock = v.ownBlock ∨ v'.ownBlock = some w.heap.size) → K (a.put o.dst v') w') :
    Oper.wp P o a w K Q := by
  obtain ⟨i0, hi, hz0, hz1, hz2⟩ := info_parts T.hi
  obtain ⟨v', w', hr, ho', hg, hn, hb⟩ := run_append_own_at (P := P) w base SL o.type E i0 z sz bytes T.hu hi hz0 hz1 hz2 T.hz T.hsz v R xs hown ⟨b, off, none⟩ m c news hl
      (fun j u hu => by rw [show (⟨b, off, none⟩ : Addr).add j = ⟨b, off + j, none⟩ by rw [Addr.add_mid]]; exact hc j u hu) h1 hR hby hbase
  unfold Oper.wp
  simp only [execOp, ho, resolve, invoke, builtin, Sem.run_bind, Sem.run_pure, Result.andThen_ok, List.map_toArray, List.map_cons, List.map_nil, hs, hx, hr]
  exact h v' w' ho' hg hb
theorem step_appR {P : Program} {SL E : TypeId} {z : Value} {sz bytes : Nat} (T : RowT P SL E z sz bytes) {ops : Array Oper} {o : Oper} {a : Act} {w : World} {K : Act → World → Prop} {Q : Exit → Act → World → Prop} {X : Prop} (hgd : o.guard = none) (s x : Operand)
    (ho : o.op = .call { callee := .builtin .append, args := #[s, x], argTypes := #[SL, SL] })
    (base R : Nat) (v : Value) (xs : List Value) (hs : a.eval s = v) (hown : OwnR w base E sz v R xs) (b off m c : Nat) (news : List Value) (hx : a.eval x = .slice (some ⟨b, off, none⟩) m c) (hl : news.length = m * sz)
    (hc : ∀ j u, news[j]? = some u → w.cell? ⟨b, off + j, none⟩ = some u) (h1 : ∀ u ∈ news, u.oneCell' = true) (hR : R + m ≤ maxLen) (hby : (R + m) * bytes ≤ 140737488355328) (hbase : base ≤ w.heap.size)
    (h : ∀ v' w', OwnR w' base E sz v' (R + m) (xs ++ news) → w.grownBy w' v.ownBlock → (v'.ownBlock = v.ownBlock ∨ v'.ownBlock = some w.heap.size) → K (a.put o.dst v') w') :
    if Region.wanted o (yielded ops a.tmps) = true then Oper.wp P o a w K Q else X := by
  rw [if_pos (by simp [Region.wanted, hgd])]
  exact op_appR T s x ho base R v xs hs hown b off m c news hx hl hc h1 hR hby hbase h
/-- The cells of a block of values that was made just now. -/
theorem cells_newR (w : World) (vs : List Value) (t : TypeId) : ∀ j u, vs[j]? = some u → (w.alloc (.cells vs.toArray t)).cell? ⟨w.heap.size, 0 + j, none⟩ = some u := fun j u hu => by
  have hb : Blk (w.alloc (.cells vs.toArray t)) w.heap.size t vs.toArray := Blk.new _ _ _
  rw [Nat.zero_add, hb.cell, List.getElem?_toArray]; exact hu
end Go.Proofs.Ytiocmebcbhbcmaa
