/-
  The reference's Fill and GHASH.
-/
import Derived.Test.YtgjnmpjimhbfgaaGreatDoorZzAesR2
namespace Go.Proofs.YtgjnmpjimhbfgaaGreatDoor
set_option maxRecDepth 100000
open Go.RowKit
def padN_q (n : Nat) : Nat := (16 - n % 16) % 16
def fillL (b : List UInt8) : List UInt8 := b ++ zs (padN_q b.length)
theorem fillL_len (b : List UInt8) : (fillL b).length % 16 = 0 := by
 unfold fillL padN_q
 rw [List.length_append, zs_len]; omega
theorem zs_succ (n : Nat) : zs (n + 1) = zs n ++ [0] := by unfold zs; rw [List.replicate_succ']
theorem fill_any (A : Option Addr) (m c : Nat) (b : List UInt8) (w : World) (h : Rd w A m c b) (hb : b.length ≤ 100000) :
  Calls Tryz.prog 81 #[.slice A m c] w fun e w' => ∃ A' n' c', e = .returned (.slice A' n' c') ∧ Own w' w.heap.size (.slice A' n' c') (fillL b) ∧ Below w.heap.size w w' := by
 go_enter Tryz.func81, Tryz.ntmps81
 go_wp2_with (at_builtin; go_must (refine wp_app2 (.const (.slice none 0 0)) (.tmp 4) w.heap.size (.slice none 0 0) [] (Own.nil _ _) (Nat.le_refl _) A m c b h (by simp; omega) rfl rfl rfl rfl ?_); intro A1 n1 c1 w1 hi1 hG; have H1 := Lib.hid hG; clear hG)
 go_loopw [3] (fun v wr => ∃ (k : Nat) (A' : Option Addr) (n' c' : Nat), k ≤ padN_q b.length ∧ v = .slice A' n' c' ∧ n' = b.length + k ∧ Own wr w.heap.size (.slice A' n' c') (b ++ zs k) ∧ Below w.heap.size w wr) (fun v _ => b.length + 16 - sliceLen_q v)
 case atStart =>
  have := H1.out.own
  rw [List.nil_append] at this
  refine ⟨0, A1, n1, c1, by omega, rfl, by have := H1.out.len; simp at this; omega, by simpa [zs] using this, H1.out.below⟩
 case round =>
  obtain ⟨k, A', n', c', hk, rfl, hn, hO, hB⟩ := hrel
  have hp : padN_q b.length < 16 := by unfold padN_q; omega
  by_cases hz : n' % 16 = 0
  ·have hm1 : (n' : Int).tmod 16 = 0 := by rw [Int.tmod_eq_emod_of_nonneg (by omega)]; omega
   have hm2 : (n' : Int) % 16 = 0 := by omega
   have hke : k = padN_q b.length := by unfold padN_q at hk ⊢; omega
   subst hke
   have HO := Lib.hid (And.intro hO hB)
   clear hO hB hn hk
   go_wp2_with fail
   go_ret
   exact ⟨A', n', c', rfl, HO.out.1, HO.out.2⟩
  ·obtain ⟨r, hr⟩ : ∃ r, r = n' % 16 := ⟨_, rfl⟩
   have hr0 : ¬ (r : Int) = 0 := by omega
   have hr0' : ((r : Int) != 0) = true := by simp; omega
   have hm1 : (n' : Int).tmod 16 = (r : Int) := by rw [Int.tmod_eq_emod_of_nonneg (by omega)]; omega
   have hm2 : (n' : Int) % 16 = (r : Int) := by omega
   have hk2 : k < padN_q b.length := by unfold padN_q at hk ⊢; omega
   have HO := Lib.hid (And.intro hO (And.intro hB (And.intro hn (And.intro hk2 hp))))
   clear hO hB hn hk hr hz hk2 hp
   go_wp2_with (at_builtin; go_must (refine wp_app_lit (.tmp 10) (.tmp 11) w.heap.size _ (b ++ zs k) HO.out.1 HO.out.2.1.size [0] (by rw [List.length_append, zs_len]; have := HO.out.2.2.2.1; have := HO.out.2.2.2.2; omega) (by simp) rfl rfl rfl rfl rfl rfl ?_); intro A3 n3 c3 w3 hi3 hG3; have H3 := Lib.hid hG3; clear hG3)
   go_roundw
   case rel =>
    have h1 := H3.out.own
    rw [List.append_assoc, ← zs_succ] at h1
    refine ⟨k + 1, A3, n3, c3, by have := HO.out.2.2.2.1; omega, rfl, by have := H3.out.len; simp at this; rw [zs_len] at this; omega, h1, ?_⟩
    exact (HO.out.2.1.alloc HO.out.2.1.size _).trans H3.out.below
   case measure =>
    have h1 := H3.out.len
    simp at h1
    rw [zs_len] at h1
    simp [sliceLen_q]
    have := HO.out.2.2.1
    have := HO.out.2.2.2.1
    have := HO.out.2.2.2.2
    omega
def rG (h : List UInt8) : Nat → List UInt8 → List UInt8 → List UInt8
 | 0, _, y => y
 | n + 1, m, y => rG h n (m.drop 16) (rT (xorL y (m.take 16)) h 128).1
def rgh (h b : List UInt8) : List UInt8 := rG h ((fillL b).length / 16) (fillL b) (zs 16)
set_option maxHeartbeats 4000000 in
theorem rgh_any (A C : Option Addr) (ca mb cb : Nat) (h b : List UInt8) (w : World) (hh : Rd w A 16 ca h) (hbr : Rd w C mb cb b) (hb : b.length ≤ 100000) :
  Calls Tryz.prog 83 #[.slice A 16 ca, .slice C mb cb] w fun e w' => ∃ g c, e = .returned (.slice (some ⟨g, 0, none⟩) 16 c) ∧ Own w' w.heap.size (.slice (some ⟨g, 0, none⟩) 16 c) (rgh h b) ∧ Below w.heap.size w w' := by
 obtain ⟨X, hX⟩ : ∃ X, w.heap.size = X := ⟨_, rfl⟩
 have hmk := Tryz.prog_make 16 (by omega) w
 obtain ⟨w1, hw1⟩ : ∃ w1, w.alloc (.cells (madeCells #[.int .u8 0] 16) 5) = w1 := ⟨_, rfl⟩
 have hO1 : Own w1 X (.slice (some ⟨X, 0, none⟩) 16 16) (zs 16) := by rw [← hw1, ← hX]; exact Own.made w 16 (by unfold maxLen; omega)
 have hB1 : Below X w w1 := by rw [← hw1, ← hX]; exact (Below.refl _ _).alloc (Nat.le_refl _) _
 rw [hw1, hX, show ((16 : Nat) : Int) = 16 from rfl] at hmk
 have hb1 := hbr.below (by rw [hX]; exact hB1)
 have hhl : h.length = 16 := hh.1.symm
 have HH := Lib.hid (And.intro hh (And.intro hO1 (And.intro hB1 (And.intro hb1 hhl))))
 clear hO1 hB1 hw1 hh hbr hb1 hhl
 rw [hX]
 go_enter Tryz.func83, Tryz.ntmps83
 go_wp2_with (go_at_call 81; go_must (refine (fill_any _ _ _ b w1 HH.out.2.2.2.1 hb).mono ?_); rintro e w2 ⟨Am, nm, cm, rfl, ho2, hb2⟩; have H2 := Lib.hid (And.intro ho2 hb2); clear ho2 hb2)
 clear hmk
 have hB2 := HH.out.2.2.1.trans (H2.out.2.mono (by rw [← hX]; exact HH.out.2.2.1.size))
 have hy2 := HH.out.2.1.below H2.out.2
 have hnm := H2.out.1.len
 have hfl := fillL_len b
 have hrg : rG h ((fillL b).length / 16) (fillL b) (zs 16) = rgh h b := rfl
 have hfl2 : (fillL b).length ≤ 100016 := by unfold fillL padN_q; rw [List.length_append, zs_len]; omega
 have H3 := Lib.hid (And.intro hB2 (And.intro hy2 (And.intro H2.out.1.rd (And.intro hnm (And.intro hfl (And.intro hrg hfl2))))))
 clear hB2 hy2 hnm hfl hrg hfl2
 go_loopw [5, 6] (fun yv mv wr => ∃ (k gy cy : Nat) (Am : Option Addr) (cm : Nat) (y m : List UInt8), yv = .slice (some ⟨gy, 0, none⟩) 16 cy ∧ mv = .slice Am (16 * k) cm ∧ Own wr X (.slice (some ⟨gy, 0, none⟩) 16 cy) y ∧ Rd wr Am (16 * k) cm m ∧ Below X w wr ∧ rG h k m y = rgh h b ∧ k ≤ 10000) (fun _ mv _ => sliceLen_q mv)
 case atStart =>
  obtain ⟨h1, h2, h3, h4, h5, h6, h7⟩ := H3.out
  have h8 : nm = 16 * ((fillL b).length / 16) := by omega
  exact ⟨(fillL b).length / 16, X, 16, Am, cm, zs 16, fillL b, rfl, by rw [← h8], h2, by rw [← h8]; exact h3, h1, h6, by omega⟩
 case round =>
  obtain ⟨k, gy, cy, Am', cm', y, m, rfl, rfl, hy, hm, hB, hg, hk⟩ := hrel
  clear H3 H2
  rcases k with _ | k
  ·have hg' : y = rgh h b := hg
   have h0 : ¬ (0 : Int) < 16 * ((0 : Nat) : Int) := by omega
   have HS := Lib.hid (And.intro hy (And.intro hB hg'))
   clear hy hm hB hg hg' hk
   go_wp2_with fail
   go_ret
   exact ⟨gy, cy, rfl, by rw [← HS.out.2.2]; exact HS.out.1, HS.out.2.1⟩
  ·have hml := hm.1
   obtain ⟨bm, om, rfl, ha⟩ := hm.addr (by omega)
   have hmc := hm.2.1
   have hcm := hm.2.2.1
   unfold maxLen at hcm
   obtain ⟨n, hn⟩ : ∃ n, n = 16 * (k + 1) := ⟨_, rfl⟩
   rw [← hn] at hm hml hmc ⊢
   have hn16 : 16 ≤ n := by omega
   have hn0 : (0 : Int) < n := by omega
   have hn16' : (16 : Int) ≤ n := by omega
   have hc16 : (16 : Int) ≤ cm' := by omega
   have hc16' : 16 ≤ cm' := by omega
   have hncm : (n : Int) ≤ cm' := by omega
   have hfr := hm.front (k := 16) (by omega)
   have hct := hm.cut (k := 16) (by omega)
   have hnk : n - 16 = 16 * k := by omega
   have HS := Lib.hid (And.intro hy (And.intro hm (And.intro hB (And.intro hg (And.intro hfr (And.intro hct (And.intro hk hnk)))))))
   clear hy hm hB hg hfr hct hk hml ha hmc hn hnk
   by_cases hck : cm' = 16
   ·subst hck
    have hct := HS.out.2.2.2.2.2.1
    rw [if_pos rfl] at hct
    have HC := Lib.hid hct
    clear hct
    go_wp2_with fail
    go_at_call 78
    refine (rxor_any _ _ _ _ y (m.take 16) wr HS.out.1.rd HS.out.2.2.2.2.1).mono ?_
    rintro e w4 ⟨rfl, ho4, hb4⟩
    have H4 := Lib.hid (And.intro ho4 hb4)
    have hB4 := HS.out.2.2.1.trans (hb4.mono (by rw [← hX]; exact HS.out.2.2.1.size))
    have HB4 := Lib.hid hB4
    clear ho4 hb4 hB4
    go_wp2_with fail
    go_at_call 100
    refine (rgmul_any _ _ _ _ _ h w4 H4.out.1.rd (HH.out.1.below (by rw [hX]; exact HB4.out))).mono ?_
    rintro e w5 ⟨g5, c5, rfl, ho5, hb5⟩
    have H5 := Lib.hid (And.intro ho5 hb5)
    have hB5 := HB4.out.trans (hb5.mono (by rw [← hX]; exact HB4.out.size))
    have HB5 := Lib.hid hB5
    clear ho5 hb5 hB5
    go_wp2_with fail
    go_roundw
    case rel => exact ⟨k, g5, c5, some ⟨bm, om, none⟩, 16 - 16, _, m.drop 16, rfl, by rw [← HS.out.2.2.2.2.2.2.2], H5.out.1.mono (by rw [← hX]; exact HB4.out.size), by rw [← HS.out.2.2.2.2.2.2.2]; exact (HC.out.below H4.out.2).below H5.out.2, HB5.out, HS.out.2.2.2.1, by have := HS.out.2.2.2.2.2.2.1; omega⟩
    case measure => simp [sliceLen_q]; omega
   ·have hct := HS.out.2.2.2.2.2.1
    rw [if_neg hck] at hct
    simp only [Option.map_some, Addr.add_mid] at hct
    have HC := Lib.hid hct
    clear hct
    go_wp2_with fail
    go_at_call 78
    refine (rxor_any _ _ _ _ y (m.take 16) wr HS.out.1.rd HS.out.2.2.2.2.1).mono ?_
    rintro e w4 ⟨rfl, ho4, hb4⟩
    have H4 := Lib.hid (And.intro ho4 hb4)
    have hB4 := HS.out.2.2.1.trans (hb4.mono (by rw [← hX]; exact HS.out.2.2.1.size))
    have HB4 := Lib.hid hB4
    clear ho4 hb4 hB4
    go_wp2_with fail
    go_at_call 100
    refine (rgmul_any _ _ _ _ _ h w4 H4.out.1.rd (HH.out.1.below (by rw [hX]; exact HB4.out))).mono ?_
    rintro e w5 ⟨g5, c5, rfl, ho5, hb5⟩
    have H5 := Lib.hid (And.intro ho5 hb5)
    have hB5 := HB4.out.trans (hb5.mono (by rw [← hX]; exact HB4.out.size))
    have HB5 := Lib.hid hB5
    clear ho5 hb5 hB5
    go_wp2_with fail
    go_roundw
    case rel => exact ⟨k, g5, c5, some ⟨bm, om + 16, none⟩, cm' - 16, _, m.drop 16, rfl, by rw [← HS.out.2.2.2.2.2.2.2], H5.out.1.mono (by rw [← hX]; exact HB4.out.size), by rw [← HS.out.2.2.2.2.2.2.2]; exact (HC.out.below H4.out.2).below H5.out.2, HB5.out, HS.out.2.2.2.1, by have := HS.out.2.2.2.2.2.2.1; omega⟩
    case measure => simp [sliceLen_q]; omega
theorem bw_56_56_q (x : UInt8) : ((x.toUInt64 <<< 56) >>> 56).toUInt8 = x := by revert x; refine all8 ?_; decide +kernel
theorem bw_56_48_q (x : UInt8) : ((x.toUInt64 <<< 56) >>> 48).toUInt8 = 0 := by revert x; refine all8 ?_; decide +kernel
theorem bw_56_40_q (x : UInt8) : ((x.toUInt64 <<< 56) >>> 40).toUInt8 = 0 := by revert x; refine all8 ?_; decide +kernel
theorem bw_56_32_q (x : UInt8) : ((x.toUInt64 <<< 56) >>> 32).toUInt8 = 0 := by revert x; refine all8 ?_; decide +kernel
theorem bw_56_24_q (x : UInt8) : ((x.toUInt64 <<< 56) >>> 24).toUInt8 = 0 := by revert x; refine all8 ?_; decide +kernel
theorem bw_56_16_q (x : UInt8) : ((x.toUInt64 <<< 56) >>> 16).toUInt8 = 0 := by revert x; refine all8 ?_; decide +kernel
theorem bw_56_8_q (x : UInt8) : ((x.toUInt64 <<< 56) >>> 8).toUInt8 = 0 := by revert x; refine all8 ?_; decide +kernel
theorem bw_56_0_q (x : UInt8) : (x.toUInt64 <<< 56).toUInt8 = 0 := by revert x; refine all8 ?_; decide +kernel
theorem bw_48_56_q (x : UInt8) : ((x.toUInt64 <<< 48) >>> 56).toUInt8 = 0 := by revert x; refine all8 ?_; decide +kernel
theorem bw_48_48_q (x : UInt8) : ((x.toUInt64 <<< 48) >>> 48).toUInt8 = x := by revert x; refine all8 ?_; decide +kernel
theorem bw_48_40_q (x : UInt8) : ((x.toUInt64 <<< 48) >>> 40).toUInt8 = 0 := by revert x; refine all8 ?_; decide +kernel
theorem bw_48_32_q (x : UInt8) : ((x.toUInt64 <<< 48) >>> 32).toUInt8 = 0 := by revert x; refine all8 ?_; decide +kernel
theorem bw_48_24_q (x : UInt8) : ((x.toUInt64 <<< 48) >>> 24).toUInt8 = 0 := by revert x; refine all8 ?_; decide +kernel
theorem bw_48_16_q (x : UInt8) : ((x.toUInt64 <<< 48) >>> 16).toUInt8 = 0 := by revert x; refine all8 ?_; decide +kernel
theorem bw_48_8_q (x : UInt8) : ((x.toUInt64 <<< 48) >>> 8).toUInt8 = 0 := by revert x; refine all8 ?_; decide +kernel
theorem bw_48_0_q (x : UInt8) : (x.toUInt64 <<< 48).toUInt8 = 0 := by revert x; refine all8 ?_; decide +kernel
theorem bw_40_56_q (x : UInt8) : ((x.toUInt64 <<< 40) >>> 56).toUInt8 = 0 := by revert x; refine all8 ?_; decide +kernel
theorem bw_40_48_q (x : UInt8) : ((x.toUInt64 <<< 40) >>> 48).toUInt8 = 0 := by revert x; refine all8 ?_; decide +kernel
theorem bw_40_40_q (x : UInt8) : ((x.toUInt64 <<< 40) >>> 40).toUInt8 = x := by revert x; refine all8 ?_; decide +kernel
theorem bw_40_32_q (x : UInt8) : ((x.toUInt64 <<< 40) >>> 32).toUInt8 = 0 := by revert x; refine all8 ?_; decide +kernel
theorem bw_40_24_q (x : UInt8) : ((x.toUInt64 <<< 40) >>> 24).toUInt8 = 0 := by revert x; refine all8 ?_; decide +kernel
theorem bw_40_16_q (x : UInt8) : ((x.toUInt64 <<< 40) >>> 16).toUInt8 = 0 := by revert x; refine all8 ?_; decide +kernel
theorem bw_40_8_q (x : UInt8) : ((x.toUInt64 <<< 40) >>> 8).toUInt8 = 0 := by revert x; refine all8 ?_; decide +kernel
theorem bw_40_0_q (x : UInt8) : (x.toUInt64 <<< 40).toUInt8 = 0 := by revert x; refine all8 ?_; decide +kernel
theorem bw_32_56_q (x : UInt8) : ((x.toUInt64 <<< 32) >>> 56).toUInt8 = 0 := by revert x; refine all8 ?_; decide +kernel
theorem bw_32_48_q (x : UInt8) : ((x.toUInt64 <<< 32) >>> 48).toUInt8 = 0 := by revert x; refine all8 ?_; decide +kernel
theorem bw_32_40_q (x : UInt8) : ((x.toUInt64 <<< 32) >>> 40).toUInt8 = 0 := by revert x; refine all8 ?_; decide +kernel
theorem bw_32_32_q (x : UInt8) : ((x.toUInt64 <<< 32) >>> 32).toUInt8 = x := by revert x; refine all8 ?_; decide +kernel
theorem bw_32_24_q (x : UInt8) : ((x.toUInt64 <<< 32) >>> 24).toUInt8 = 0 := by revert x; refine all8 ?_; decide +kernel
theorem bw_32_16_q (x : UInt8) : ((x.toUInt64 <<< 32) >>> 16).toUInt8 = 0 := by revert x; refine all8 ?_; decide +kernel
theorem bw_32_8_q (x : UInt8) : ((x.toUInt64 <<< 32) >>> 8).toUInt8 = 0 := by revert x; refine all8 ?_; decide +kernel
theorem bw_32_0_q (x : UInt8) : (x.toUInt64 <<< 32).toUInt8 = 0 := by revert x; refine all8 ?_; decide +kernel
theorem bw_24_56_q (x : UInt8) : ((x.toUInt64 <<< 24) >>> 56).toUInt8 = 0 := by revert x; refine all8 ?_; decide +kernel
theorem bw_24_48_q (x : UInt8) : ((x.toUInt64 <<< 24) >>> 48).toUInt8 = 0 := by revert x; refine all8 ?_; decide +kernel
theorem bw_24_40_q (x : UInt8) : ((x.toUInt64 <<< 24) >>> 40).toUInt8 = 0 := by revert x; refine all8 ?_; decide +kernel
theorem bw_24_32_q (x : UInt8) : ((x.toUInt64 <<< 24) >>> 32).toUInt8 = 0 := by revert x; refine all8 ?_; decide +kernel
theorem bw_24_24_q (x : UInt8) : ((x.toUInt64 <<< 24) >>> 24).toUInt8 = x := by revert x; refine all8 ?_; decide +kernel
theorem bw_24_16_q (x : UInt8) : ((x.toUInt64 <<< 24) >>> 16).toUInt8 = 0 := by revert x; refine all8 ?_; decide +kernel
theorem bw_24_8_q (x : UInt8) : ((x.toUInt64 <<< 24) >>> 8).toUInt8 = 0 := by revert x; refine all8 ?_; decide +kernel
theorem bw_24_0_q (x : UInt8) : (x.toUInt64 <<< 24).toUInt8 = 0 := by revert x; refine all8 ?_; decide +kernel
theorem bw_16_56_q (x : UInt8) : ((x.toUInt64 <<< 16) >>> 56).toUInt8 = 0 := by revert x; refine all8 ?_; decide +kernel
theorem bw_16_48_q (x : UInt8) : ((x.toUInt64 <<< 16) >>> 48).toUInt8 = 0 := by revert x; refine all8 ?_; decide +kernel
theorem bw_16_40_q (x : UInt8) : ((x.toUInt64 <<< 16) >>> 40).toUInt8 = 0 := by revert x; refine all8 ?_; decide +kernel
theorem bw_16_32_q (x : UInt8) : ((x.toUInt64 <<< 16) >>> 32).toUInt8 = 0 := by revert x; refine all8 ?_; decide +kernel
theorem bw_16_24_q (x : UInt8) : ((x.toUInt64 <<< 16) >>> 24).toUInt8 = 0 := by revert x; refine all8 ?_; decide +kernel
theorem bw_16_16_q (x : UInt8) : ((x.toUInt64 <<< 16) >>> 16).toUInt8 = x := by revert x; refine all8 ?_; decide +kernel
theorem bw_16_8_q (x : UInt8) : ((x.toUInt64 <<< 16) >>> 8).toUInt8 = 0 := by revert x; refine all8 ?_; decide +kernel
theorem bw_16_0_q (x : UInt8) : (x.toUInt64 <<< 16).toUInt8 = 0 := by revert x; refine all8 ?_; decide +kernel
theorem bw_8_56_q (x : UInt8) : ((x.toUInt64 <<< 8) >>> 56).toUInt8 = 0 := by revert x; refine all8 ?_; decide +kernel
theorem bw_8_48_q (x : UInt8) : ((x.toUInt64 <<< 8) >>> 48).toUInt8 = 0 := by revert x; refine all8 ?_; decide +kernel
theorem bw_8_40_q (x : UInt8) : ((x.toUInt64 <<< 8) >>> 40).toUInt8 = 0 := by revert x; refine all8 ?_; decide +kernel
theorem bw_8_32_q (x : UInt8) : ((x.toUInt64 <<< 8) >>> 32).toUInt8 = 0 := by revert x; refine all8 ?_; decide +kernel
theorem bw_8_24_q (x : UInt8) : ((x.toUInt64 <<< 8) >>> 24).toUInt8 = 0 := by revert x; refine all8 ?_; decide +kernel
theorem bw_8_16_q (x : UInt8) : ((x.toUInt64 <<< 8) >>> 16).toUInt8 = 0 := by revert x; refine all8 ?_; decide +kernel
theorem bw_8_8_q (x : UInt8) : ((x.toUInt64 <<< 8) >>> 8).toUInt8 = x := by revert x; refine all8 ?_; decide +kernel
theorem bw_8_0_q (x : UInt8) : (x.toUInt64 <<< 8).toUInt8 = 0 := by revert x; refine all8 ?_; decide +kernel
theorem bw_0_56_q (x : UInt8) : (x.toUInt64 >>> 56).toUInt8 = 0 := by revert x; refine all8 ?_; decide +kernel
theorem bw_0_48_q (x : UInt8) : (x.toUInt64 >>> 48).toUInt8 = 0 := by revert x; refine all8 ?_; decide +kernel
theorem bw_0_40_q (x : UInt8) : (x.toUInt64 >>> 40).toUInt8 = 0 := by revert x; refine all8 ?_; decide +kernel
theorem bw_0_32_q (x : UInt8) : (x.toUInt64 >>> 32).toUInt8 = 0 := by revert x; refine all8 ?_; decide +kernel
theorem bw_0_24_q (x : UInt8) : (x.toUInt64 >>> 24).toUInt8 = 0 := by revert x; refine all8 ?_; decide +kernel
theorem bw_0_16_q (x : UInt8) : (x.toUInt64 >>> 16).toUInt8 = 0 := by revert x; refine all8 ?_; decide +kernel
theorem bw_0_8_q (x : UInt8) : (x.toUInt64 >>> 8).toUInt8 = 0 := by revert x; refine all8 ?_; decide +kernel
theorem bw_0_0_q (x : UInt8) : x.toUInt64.toUInt8 = x := by revert x; refine all8 ?_; decide +kernel
theorem bytes_be64_q (a b c d e f g h : UInt8) : bytes64 (be64 a b c d e f g h) = [a, b, c, d, e, f, g, h] := by
 unfold bytes64 be64
 simp only [UInt64.shiftRight_or, UInt64.toUInt8_or, bw_56_56_q, bw_56_48_q, bw_56_40_q, bw_56_32_q, bw_56_24_q, bw_56_16_q, bw_56_8_q, bw_56_0_q, bw_48_56_q, bw_48_48_q, bw_48_40_q, bw_48_32_q, bw_48_24_q, bw_48_16_q, bw_48_8_q, bw_48_0_q, bw_40_56_q, bw_40_48_q, bw_40_40_q, bw_40_32_q, bw_40_24_q, bw_40_16_q, bw_40_8_q, bw_40_0_q, bw_32_56_q, bw_32_48_q, bw_32_40_q, bw_32_32_q, bw_32_24_q, bw_32_16_q, bw_32_8_q, bw_32_0_q, bw_24_56_q, bw_24_48_q, bw_24_40_q, bw_24_32_q, bw_24_24_q, bw_24_16_q, bw_24_8_q, bw_24_0_q, bw_16_56_q, bw_16_48_q, bw_16_40_q, bw_16_32_q, bw_16_24_q, bw_16_16_q, bw_16_8_q, bw_16_0_q, bw_8_56_q, bw_8_48_q, bw_8_40_q, bw_8_32_q, bw_8_24_q, bw_8_16_q, bw_8_8_q, bw_8_0_q, bw_0_56_q, bw_0_48_q, bw_0_40_q, bw_0_32_q, bw_0_24_q, bw_0_16_q, bw_0_8_q, bw_0_0_q, UInt8.zero_or, UInt8.or_zero]
theorem wr_rd_q (x : List UInt8) (h : x.length = 16) : wr16 (rd16 x).1 (rd16 x).2 = x := by
 obtain ⟨x0, x1, x2, x3, x4, x5, x6, x7, x8, x9, x10, x11, x12, x13, x14, x15, rfl⟩ := list16 x h
 show bytes64 (be64 x0 x1 x2 x3 x4 x5 x6 x7) ++ bytes64 (be64 x8 x9 x10 x11 x12 x13 x14 x15) = _
 rw [bytes_be64_q, bytes_be64_q]; rfl
theorem xor_wr (a b c d : UInt64) : xorL (wr16 a b) (wr16 c d) = wr16 (a ^^^ c) (b ^^^ d) := by
 unfold xorL wr16 bytes64
 simp only [List.cons_append, List.nil_append, List.zipWith_cons_cons, List.zipWith_nil_left, UInt64.shiftRight_xor, UInt64.toUInt8_xor]
theorem wr_zero : wr16 0 0 = zs 16 := by decide
def pB (prev cur : UInt8) : UInt8 := if isN (prev &&& 1) 1 = true then (cur >>> 1) + 128 else cur >>> 1
theorem odd_iff (x : UInt8) : isN (x &&& 1) 1 = true ↔ x.toNat % 2 = 1 := by
 unfold isN
 simp
 omega
theorem pB_nat (prev cur : UInt8) : (pB prev cur).toNat = cur.toNat / 2 + 128 * (prev.toNat % 2) := by
 unfold pB
 have h := cur.toNat_lt
 have e : (cur >>> 1).toNat = cur.toNat / 2 := by rw [UInt8.toNat_shiftRight]; simp [Nat.shiftRight_eq_div_pow]
 split
 ·rename_i hb
  rw [odd_iff] at hb
  rw [UInt8.toNat_add, e, hb]
  show (cur.toNat / 2 + 128) % 256 = _
  omega
 ·rename_i hb
  rw [odd_iff] at hb
  rw [e]; omega
theorem by_nat (x : UInt64) (s : Nat) (h : s < 64) : (x >>> UInt64.ofNat s).toUInt8.toNat = x.toNat / 2 ^ s % 256 := by
 rw [UInt64.toNat_toUInt8, UInt64.toNat_shiftRight, UInt64.toNat_ofNat', Nat.mod_eq_of_lt (a := s) (by omega), Nat.mod_eq_of_lt h, Nat.shiftRight_eq_div_pow]
theorem lo_nat (h l : UInt64) : (l >>> 1 ||| h <<< 63).toNat = l.toNat / 2 + (h.toNat % 2) * 9223372036854775808 := by
 have hl := l.toNat_lt
 have hh := h.toNat_lt
 rw [UInt64.toNat_or, UInt64.toNat_shiftRight, UInt64.toNat_shiftLeft]
 show l.toNat >>> 1 ||| (h.toNat <<< 63) % 2 ^ 64 = _
 rw [Nat.shiftRight_eq_div_pow, Nat.shiftLeft_eq]
 have e1 : h.toNat * 2 ^ 63 % 2 ^ 64 = (h.toNat % 2) <<< 63 := by rw [Nat.shiftLeft_eq]; omega
 rw [e1, Nat.or_comm, ← Nat.shiftLeft_add_eq_or_of_lt (by omega), Nat.shiftLeft_eq]
 omega
theorem hi_nat (h : UInt64) : (h >>> 1).toNat = h.toNat / 2 := by
 rw [UInt64.toNat_shiftRight]; show h.toNat >>> 1 = _; rw [Nat.shiftRight_eq_div_pow]
theorem bn_56 (x : UInt64) : (x >>> 56).toUInt8.toNat = x.toNat / 72057594037927936 % 256 := by have := by_nat x 56 (by omega); exact this
theorem bn_48 (x : UInt64) : (x >>> 48).toUInt8.toNat = x.toNat / 281474976710656 % 256 := by have := by_nat x 48 (by omega); exact this
theorem bn_40 (x : UInt64) : (x >>> 40).toUInt8.toNat = x.toNat / 1099511627776 % 256 := by have := by_nat x 40 (by omega); exact this
theorem bn_32 (x : UInt64) : (x >>> 32).toUInt8.toNat = x.toNat / 4294967296 % 256 := by have := by_nat x 32 (by omega); exact this
theorem bn_24 (x : UInt64) : (x >>> 24).toUInt8.toNat = x.toNat / 16777216 % 256 := by have := by_nat x 24 (by omega); exact this
theorem bn_16 (x : UInt64) : (x >>> 16).toUInt8.toNat = x.toNat / 65536 % 256 := by have := by_nat x 16 (by omega); exact this
theorem bn_8 (x : UInt64) : (x >>> 8).toUInt8.toNat = x.toNat / 256 % 256 := by have := by_nat x 8 (by omega); exact this
theorem bn_0 (x : UInt64) : x.toUInt8.toNat = x.toNat % 256 := by rw [UInt64.toNat_toUInt8]
theorem shL_list (h l : UInt64) : shL (wr16 h l) = [(h >>> 56).toUInt8 >>> 1, pB (h >>> 56).toUInt8 (h >>> 48).toUInt8, pB (h >>> 48).toUInt8 (h >>> 40).toUInt8, pB (h >>> 40).toUInt8 (h >>> 32).toUInt8, pB (h >>> 32).toUInt8 (h >>> 24).toUInt8, pB (h >>> 24).toUInt8 (h >>> 16).toUInt8, pB (h >>> 16).toUInt8 (h >>> 8).toUInt8, pB (h >>> 8).toUInt8 h.toUInt8, pB h.toUInt8 (l >>> 56).toUInt8, pB (l >>> 56).toUInt8 (l >>> 48).toUInt8, pB (l >>> 48).toUInt8 (l >>> 40).toUInt8, pB (l >>> 40).toUInt8 (l >>> 32).toUInt8, pB (l >>> 32).toUInt8 (l >>> 24).toUInt8, pB (l >>> 24).toUInt8 (l >>> 16).toUInt8, pB (l >>> 16).toUInt8 (l >>> 8).toUInt8, pB (l >>> 8).toUInt8 l.toUInt8] := by
 simp only [shL, List.range, List.range.loop, List.map_cons, List.map_nil, shB]
 simp [wr16, bytes64, pB]
theorem sh_wr (h l : UInt64) : shL (wr16 h l) = wr16 (h >>> 1) (l >>> 1 ||| h <<< 63) := by
 rw [shL_list]
 have hh := h.toNat_lt
 have hl := l.toNat_lt
 have e0 : (h >>> 56).toUInt8 >>> 1 = ((h >>> 1) >>> 56).toUInt8 := by
  rw [← UInt8.toNat_inj, UInt8.toNat_shiftRight]
  show (h >>> 56).toUInt8.toNat >>> 1 = _
  rw [Nat.shiftRight_eq_div_pow, bn_56, bn_56, hi_nat]; omega
 have e1 : pB (h >>> 56).toUInt8 (h >>> 48).toUInt8 = ((h >>> 1) >>> 48).toUInt8 := by rw [← UInt8.toNat_inj, pB_nat, bn_48, bn_56, bn_48, hi_nat]; omega
 have e2 : pB (h >>> 48).toUInt8 (h >>> 40).toUInt8 = ((h >>> 1) >>> 40).toUInt8 := by rw [← UInt8.toNat_inj, pB_nat, bn_40, bn_48, bn_40, hi_nat]; omega
 have e3 : pB (h >>> 40).toUInt8 (h >>> 32).toUInt8 = ((h >>> 1) >>> 32).toUInt8 := by rw [← UInt8.toNat_inj, pB_nat, bn_32, bn_40, bn_32, hi_nat]; omega
 have e4 : pB (h >>> 32).toUInt8 (h >>> 24).toUInt8 = ((h >>> 1) >>> 24).toUInt8 := by rw [← UInt8.toNat_inj, pB_nat, bn_24, bn_32, bn_24, hi_nat]; omega
 have e5 : pB (h >>> 24).toUInt8 (h >>> 16).toUInt8 = ((h >>> 1) >>> 16).toUInt8 := by rw [← UInt8.toNat_inj, pB_nat, bn_16, bn_24, bn_16, hi_nat]; omega
 have e6 : pB (h >>> 16).toUInt8 (h >>> 8).toUInt8 = ((h >>> 1) >>> 8).toUInt8 := by rw [← UInt8.toNat_inj, pB_nat, bn_8, bn_16, bn_8, hi_nat]; omega
 have e7 : pB (h >>> 8).toUInt8 h.toUInt8 = (h >>> 1).toUInt8 := by rw [← UInt8.toNat_inj, pB_nat, bn_0, bn_8, bn_0, hi_nat]; omega
 have e8 : pB h.toUInt8 (l >>> 56).toUInt8 = ((l >>> 1 ||| h <<< 63) >>> 56).toUInt8 := by rw [← UInt8.toNat_inj, pB_nat, bn_56, bn_0, bn_56, lo_nat]; omega
 have e9 : pB (l >>> 56).toUInt8 (l >>> 48).toUInt8 = ((l >>> 1 ||| h <<< 63) >>> 48).toUInt8 := by rw [← UInt8.toNat_inj, pB_nat, bn_48, bn_56, bn_48, lo_nat]; omega
 have e10 : pB (l >>> 48).toUInt8 (l >>> 40).toUInt8 = ((l >>> 1 ||| h <<< 63) >>> 40).toUInt8 := by rw [← UInt8.toNat_inj, pB_nat, bn_40, bn_48, bn_40, lo_nat]; omega
 have e11 : pB (l >>> 40).toUInt8 (l >>> 32).toUInt8 = ((l >>> 1 ||| h <<< 63) >>> 32).toUInt8 := by rw [← UInt8.toNat_inj, pB_nat, bn_32, bn_40, bn_32, lo_nat]; omega
 have e12 : pB (l >>> 32).toUInt8 (l >>> 24).toUInt8 = ((l >>> 1 ||| h <<< 63) >>> 24).toUInt8 := by rw [← UInt8.toNat_inj, pB_nat, bn_24, bn_32, bn_24, lo_nat]; omega
 have e13 : pB (l >>> 24).toUInt8 (l >>> 16).toUInt8 = ((l >>> 1 ||| h <<< 63) >>> 16).toUInt8 := by rw [← UInt8.toNat_inj, pB_nat, bn_16, bn_24, bn_16, lo_nat]; omega
 have e14 : pB (l >>> 16).toUInt8 (l >>> 8).toUInt8 = ((l >>> 1 ||| h <<< 63) >>> 8).toUInt8 := by rw [← UInt8.toNat_inj, pB_nat, bn_8, bn_16, bn_8, lo_nat]; omega
 have e15 : pB (l >>> 8).toUInt8 l.toUInt8 = (l >>> 1 ||| h <<< 63).toUInt8 := by rw [← UInt8.toNat_inj, pB_nat, bn_0, bn_8, bn_0, lo_nat]; omega
 rw [e0, e1, e2, e3, e4, e5, e6, e7, e8, e9, e10, e11, e12, e13, e14, e15]
 rfl
theorem one_or (l : UInt64) : (l &&& 1 = 0 ∧ l.toNat % 2 = 0) ∨ (l &&& 1 = 1 ∧ l.toNat % 2 = 1) := by
 have : (l &&& 1).toNat = l.toNat % 2 := by rw [UInt64.toNat_and]; show l.toNat &&& 1 = _; rw [Nat.and_one_is_mod]
 rcases Nat.mod_two_eq_zero_or_one l.toNat with h | h
 ·exact .inl ⟨by rw [← UInt64.toNat_inj, this, h]; rfl, h⟩
 ·exact .inr ⟨by rw [← UInt64.toNat_inj, this, h]; rfl, h⟩
theorem rS_wr (h l : UInt64) : rS (wr16 h l) = wr16 (h >>> 1 ^^^ (16212958658533785600 &&& -(l &&& 1))) (l >>> 1 ||| h <<< 63) := by
 have hb : (wr16 h l).getD 15 0 = l.toUInt8 := rfl
 have hs0 : shB (wr16 h l) 0 = (h >>> 1 >>> 56).toUInt8 := by
  have h1 := shL_at (wr16 h l) 0 (by omega)
  rw [sh_wr] at h1
  exact (Option.some.inj h1).symm
 unfold rS
 rw [hb, sh_wr]
 rcases one_or l with ⟨e, e2⟩ | ⟨e, e2⟩
 ·have hf : ¬ isN (l.toUInt8 &&& 1) 1 = true := by rw [odd_iff, bn_0]; omega
  rw [if_neg hf, e]
  simp
 ·have hf : isN (l.toUInt8 &&& 1) 1 = true := by rw [odd_iff, bn_0]; omega
  rw [if_pos hf, e, hs0]
  have h1 : (16212958658533785600 : UInt64) &&& -1 = 16212958658533785600 := by decide
  rw [h1]
  have hx := xor_wr (h >>> 1) (l >>> 1 ||| h <<< 63) 16212958658533785600 0
  have hz : wr16 16212958658533785600 0 = [225, 0, 0, 0, 0, 0, 0, 0, 0, 0, 0, 0, 0, 0, 0, 0] := by decide
  rw [hz, UInt64.xor_zero] at hx
  rw [← hx]
  unfold xorL wr16 bytes64
  simp
theorem bit_in (n a b : Nat) (hb : b < 8) : (n / 2 ^ a % 256) / 2 ^ b % 2 = n / 2 ^ (a + b) % 2 := by
 have h1 : Nat.testBit (n / 2 ^ a % 2 ^ 8) b = Nat.testBit n (a + b) := by
  rw [Nat.testBit_mod_two_pow, Nat.testBit_div_two_pow]
  simp [hb, Nat.add_comm]
 rw [Nat.testBit_eq_decide_div_mod_eq, Nat.testBit_eq_decide_div_mod_eq] at h1
 have h2 := decide_eq_decide.1 h1
 show (n / 2 ^ a % 2 ^ 8) / 2 ^ b % 2 = _
 rcases Nat.mod_two_eq_zero_or_one ((n / 2 ^ a % 2 ^ 8) / 2 ^ b) with h | h <;> rcases Nat.mod_two_eq_zero_or_one (n / 2 ^ (a + b)) with k | k <;> omega
theorem wr_byte (h l : UInt64) (q : Nat) (hq : q < 16) : ((wr16 h l).getD q 0).toNat = (if 7 < q then l else h).toNat / 2 ^ (56 - 8 * (q % 8)) % 256 := by
 rcases q with _ | _ | _ | _ | _ | _ | _ | _ | _ | _ | _ | _ | _ | _ | _ | _ | q
 ·exact bn_56 h
 ·exact bn_48 h
 ·exact bn_40 h
 ·exact bn_32 h
 ·exact bn_24 h
 ·exact bn_16 h
 ·exact bn_8 h
 ·show h.toUInt8.toNat = h.toNat / 1 % 256; rw [bn_0, Nat.div_one]
 ·exact bn_56 l
 ·exact bn_48 l
 ·exact bn_40 l
 ·exact bn_32 l
 ·exact bn_24 l
 ·exact bn_16 l
 ·exact bn_8 l
 ·show l.toUInt8.toNat = l.toNat / 1 % 256; rw [bn_0, Nat.div_one]
 ·omega
theorem bitE_nat (h l : UInt64) (i : Nat) : (bitE h l i).toNat = (if 63 < i then l else h).toNat / 2 ^ (63 - i % 64) % 2 := by
 unfold bitE
 rw [UInt64.toNat_and]
 show _ &&& 1 = _
 rw [Nat.and_one_is_mod]
 have hs : 63 - i % 64 < 64 := by omega
 split <;> rw [UInt64.toNat_shiftRight, UInt64.toNat_ofNat', Nat.mod_eq_of_lt (a := 63 - i % 64) (by omega), Nat.mod_eq_of_lt hs, Nat.shiftRight_eq_div_pow]
theorem bR_wr (h l : UInt64) (i : Nat) (hi : i < 128) : bR (wr16 h l) i = decide ((bitE h l i).toNat = 1) := by
 have hq : i / 8 < 16 := by omega
 have hb := wr_byte h l (i / 8) hq
 have hs : 7 - i % 8 < 8 := by omega
 have e : (((wr16 h l).getD (i / 8) 0) >>> UInt8.ofNat (7 - i % 8)).toNat % 2 = (bitE h l i).toNat := by
  rw [UInt8.toNat_shiftRight, UInt8.toNat_ofNat', Nat.mod_eq_of_lt (a := 7 - i % 8) (by omega), Nat.mod_eq_of_lt hs, Nat.shiftRight_eq_div_pow, hb, bitE_nat, bit_in _ _ _ hs]
  have e1 : 56 - 8 * (i / 8 % 8) + (7 - i % 8) = 63 - i % 64 := by omega
  rw [e1]
  by_cases h7 : 7 < i / 8
  ·rw [if_pos h7, if_pos (by omega)]
  ·rw [if_neg h7, if_neg (by omega)]
 unfold bR
 rw [← e]
 have h1 := odd_iff (((wr16 h l).getD (i / 8) 0) >>> UInt8.ofNat (7 - i % 8))
 cases hn : isN (((wr16 h l).getD (i / 8) 0) >>> UInt8.ofNat (7 - i % 8) &&& 1) 1
 ·rw [hn] at h1
  have : ¬ (((wr16 h l).getD (i / 8) 0) >>> UInt8.ofNat (7 - i % 8)).toNat % 2 = 1 := fun hh => by have := h1.2 hh; cases this
  rw [decide_eq_false this]
 ·rw [hn] at h1
  rw [decide_eq_true (h1.1 rfl)]
theorem bitE_or (h l : UInt64) (i : Nat) : bitE h l i = 0 ∨ bitE h l i = 1 := by
 have := bitE_nat h l i
 rcases Nat.mod_two_eq_zero_or_one ((if 63 < i then l else h).toNat / 2 ^ (63 - i % 64)) with k | k
 ·exact .inl (by rw [← UInt64.toNat_inj, this, k]; rfl)
 ·exact .inr (by rw [← UInt64.toNat_inj, this, k]; rfl)
theorem and_neg (y b : UInt64) (hb : b = 0 ∨ b = 1) : y &&& -b = if b = 1 then y else 0 := by
 rcases hb with rfl | rfl
 ·simp
 ·rw [if_pos rfl]
  have : (-1 : UInt64) = 18446744073709551615 := by decide
  rw [this]
  rw [← UInt64.toNat_inj, UInt64.toNat_and]
  show y.toNat &&& (2 ^ 64 - 1) = _
  rw [Nat.and_two_pow_sub_one_eq_mod, Nat.mod_eq_of_lt y.toNat_lt]
theorem rT_wr (xh xl yh yl : UInt64) (i : Nat) (hi : i ≤ 128) : rT (wr16 xh xl) (wr16 yh yl) i = (wr16 (eF xh xl yh yl i).zh (eF xh xl yh yl i).zl, wr16 (eF xh xl yh yl i).yh (eF xh xl yh yl i).yl) := by
 induction i with
 | zero => show (zs 16, _) = _; rw [← wr_zero]; rfl
 | succ i ih =>
  have ih := ih (by omega)
  show (if bR (wr16 xh xl) i = true then xorL (rT (wr16 xh xl) (wr16 yh yl) i).1 (rT (wr16 xh xl) (wr16 yh yl) i).2 else (rT (wr16 xh xl) (wr16 yh yl) i).1, rS (rT (wr16 xh xl) (wr16 yh yl) i).2) = _
  rw [ih]
  have he : eF xh xl yh yl (i + 1) = eStep xh xl i (eF xh xl yh yl i) := rfl
  rw [he]
  generalize eF xh xl yh yl i = s
  obtain ⟨zh, zl, vh, vl⟩ := s
  simp only [eStep]
  rw [rS_wr, xor_wr, bR_wr xh xl i (by omega)]
  have hb := bitE_or xh xl i
  rw [and_neg vh _ hb, and_neg vl _ hb]
  rcases hb with h | h
  ·rw [h]; simp
  ·rw [h]; simp
theorem fill_take (r : List UInt8) (h : r ≠ []) : (fillL r).take 16 = splice (zs 16) 0 (r.take 16) := by
 have hl : 0 < r.length := List.length_pos_iff.2 h
 unfold splice fillL
 rw [List.take_zero, List.nil_append, Nat.zero_add]
 by_cases h16 : 16 ≤ r.length
 ·rw [List.take_append_of_le_length h16, List.length_take, Nat.min_eq_left h16]
  have : (zs 16).drop 16 = [] := by decide
  rw [this, List.append_nil]
 ·have hp : padN_q r.length = 16 - r.length := by unfold padN_q; omega
  rw [hp, List.take_of_length_le (by rw [List.length_append, zs_len]; omega), List.take_of_length_le (by omega)]
  unfold zs
  rw [List.drop_replicate]
theorem fill_drop (r : List UInt8) (h : r ≠ []) : (fillL r).drop 16 = fillL (r.drop 16) := by
 have hl : 0 < r.length := List.length_pos_iff.2 h
 unfold fillL
 by_cases h16 : 16 ≤ r.length
 ·rw [List.drop_append_of_le_length h16, List.length_drop]
  have : padN_q (r.length - 16) = padN_q r.length := by unfold padN_q; omega
  rw [this]
 ·have hp : padN_q r.length = 16 - r.length := by unfold padN_q; omega
  rw [hp, List.drop_eq_nil_of_le (by rw [List.length_append, zs_len]; omega), List.drop_eq_nil_of_le (by omega)]
  rfl
theorem splice_len (r : List UInt8) : (splice (zs 16) 0 (r.take 16)).length = 16 := by
 rw [length_splice _ _ _ (by rw [List.length_take, zs_len]; omega), zs_len]
theorem gh_rG (hh hl : UInt64) (n : Nat) : ∀ (r : List UInt8) (fuel : Nat) (yh yl : UInt64), (fillL r).length = 16 * n → r.length ≤ fuel →
  wr16 (ghS hh hl fuel r (yh, yl)).1 (ghS hh hl fuel r (yh, yl)).2 = rG (wr16 hh hl) n (fillL r) (wr16 yh yl) := by
 induction n with
 | zero =>
  intro r fuel yh yl hf _
  have hr : r = [] := by
   unfold fillL at hf
   rw [List.length_append] at hf
   exact List.length_eq_zero_iff.1 (by omega)
  subst hr
  cases fuel <;> rfl
 | succ n ih =>
  intro r fuel yh yl hf hfu
  have hr : r ≠ [] := by
   intro e
   subst e
   have : (fillL ([] : List UInt8)).length = 0 := by decide
   omega
  have hl0 : 0 < r.length := List.length_pos_iff.2 hr
  obtain ⟨f, rfl⟩ : ∃ f, fuel = f + 1 := ⟨fuel - 1, by omega⟩
  have hs : ghS hh hl (f + 1) r (yh, yl) = ghS hh hl f (r.drop 16) ((eF (yh ^^^ (rd16 (splice (zs 16) 0 (r.take 16))).1) (yl ^^^ (rd16 (splice (zs 16) 0 (r.take 16))).2) hh hl 128).zh, (eF (yh ^^^ (rd16 (splice (zs 16) 0 (r.take 16))).1) (yl ^^^ (rd16 (splice (zs 16) 0 (r.take 16))).2) hh hl 128).zl) := by
   show (if r = [] then _ else _) = _
   rw [if_neg hr]
  rw [hs]
  show _ = rG (wr16 hh hl) n ((fillL r).drop 16) (rT (xorL (wr16 yh yl) ((fillL r).take 16)) (wr16 hh hl) 128).1
  rw [fill_take r hr, fill_drop r hr]
  have hP := wr_rd_q _ (splice_len r)
  generalize splice (zs 16) 0 (r.take 16) = P at *
  obtain ⟨ph, hph⟩ : ∃ ph, ph = (rd16 P).1 := ⟨_, rfl⟩
  obtain ⟨pl, hpl⟩ : ∃ pl, pl = (rd16 P).2 := ⟨_, rfl⟩
  rw [← hph, ← hpl] at hP ⊢
  rw [← hP, xor_wr, rT_wr _ _ _ _ 128 (by omega)]
  refine ih (r.drop 16) f _ _ ?_ (by rw [List.length_drop]; omega)
  rw [← fill_drop r hr, List.length_drop, hf]; omega
theorem gh_same (h b : List UInt8) (hh : h.length = 16) : gh h b = rgh h b := by
 have hf := fillL_len b
 have h1 := gh_rG (rd16 h).1 (rd16 h).2 ((fillL b).length / 16) b b.length 0 0 (by omega) (Nat.le_refl _)
 rw [wr_rd_q h hh, wr_zero] at h1
 exact h1
end Go.Proofs.YtgjnmpjimhbfgaaGreatDoor
