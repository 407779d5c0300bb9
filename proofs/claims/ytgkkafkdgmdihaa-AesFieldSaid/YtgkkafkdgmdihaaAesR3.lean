/-
  The reference's Fill and GHASH.
-/
import Derived.Test.YtgkkafkdgmdihaaAesR2
namespace Go.Proofs.Ytgkkafkdgmdihaa
open Go.RowKit

/-- How many zeros fill up n bytes. -/
def padN (n : Nat) : Nat := (16 - n % 16) % 16
def fillL (b : List UInt8) : List UInt8 := b ++ zs (padN b.length)
theorem fillL_len (b : List UInt8) : (fillL b).length % 16 = 0 := by
  unfold fillL padN
  rw [List.length_append, zs_len]; omega
theorem zs_succ (n : Nat) : zs (n + 1) = zs n ++ [0] := by unfold zs; rw [List.replicate_succ']
theorem fill_any (A : Option Addr) (m c : Nat) (b : List UInt8) (w : World) (h : Rd w A m c b) (hb : b.length ≤ 100000) :
    Calls Try.prog 31 #[.slice A m c] w fun e w' => ∃ A' n' c', e = .returned (.slice A' n' c') ∧ Own w' w.heap.size (.slice A' n' c') (fillL b) ∧ Below w.heap.size w w' := by
  go_enter Try.func31, Try.ntmps31
  go_wp2_with (at_builtin; go_must (refine wp_app2 (.const (.slice none 0 0)) (.tmp 4) w.heap.size (.slice none 0 0) [] (Own.nil _ _) (Nat.le_refl _) A m c b h (by simp; omega) rfl rfl rfl rfl ?_); intro A1 n1 c1 w1 hi1 hG; have H1 := Lib.hid hG; clear hG)
  go_loopw [3] (fun v wr => ∃ (k : Nat) (A' : Option Addr) (n' c' : Nat), k ≤ padN b.length ∧ v = .slice A' n' c' ∧ n' = b.length + k ∧ Own wr w.heap.size (.slice A' n' c') (b ++ zs k) ∧ Below w.heap.size w wr) (fun v _ => b.length + 16 - sliceLen v)
  case atStart =>
    have := H1.out.own
    rw [List.nil_append] at this
    refine ⟨0, A1, n1, c1, by omega, rfl, by have := H1.out.len; simp at this; omega, by simpa [zs] using this, H1.out.below⟩
  case round =>
    obtain ⟨k, A', n', c', hk, rfl, hn, hO, hB⟩ := hrel
    have hp : padN b.length < 16 := by unfold padN; omega
    by_cases hz : n' % 16 = 0
    · have hm1 : (n' : Int).tmod 16 = 0 := by rw [Int.tmod_eq_emod_of_nonneg (by omega)]; omega
      have hm2 : (n' : Int) % 16 = 0 := by omega
      have hke : k = padN b.length := by unfold padN at hk ⊢; omega
      subst hke
      have HO := Lib.hid (And.intro hO hB)
      clear hO hB hn hk
      go_wp2_with fail
      go_ret
      exact ⟨A', n', c', rfl, HO.out.1, HO.out.2⟩
    · obtain ⟨r, hr⟩ : ∃ r, r = n' % 16 := ⟨_, rfl⟩
      have hr0 : ¬ (r : Int) = 0 := by omega
      have hr0' : ((r : Int) != 0) = true := by simp; omega
      have hm1 : (n' : Int).tmod 16 = (r : Int) := by rw [Int.tmod_eq_emod_of_nonneg (by omega)]; omega
      have hm2 : (n' : Int) % 16 = (r : Int) := by omega
      have hk2 : k < padN b.length := by unfold padN at hk ⊢; omega
      have HO := Lib.hid (And.intro hO (And.intro hB (And.intro hn (And.intro hk2 hp))))
      clear hO hB hn hk hr hz hk2 hp
      go_wp2_with (at_builtin; go_must (refine wp_app_lit (.tmp 10) (.tmp 11) w.heap.size _ (b ++ zs k) HO.out.1 HO.out.2.1.size [0] (by rw [List.length_append, zs_len]; have := HO.out.2.2.2.1; have := HO.out.2.2.2.2; omega) (by simp) rfl rfl rfl rfl rfl rfl ?_); intro A3 n3 c3 w3 hi3 hG3; have H3 := Lib.hid hG3; clear hG3)
      go_roundw
      case rel =>
        have h1 := H3.out.own
        rw [List.append_assoc, ← zs_succ] at h1
        refine ⟨k + 1, A3, n3, c3, by have := HO.out.2.2.2.1; omega, rfl, by have := H3.out.len; simp at this; rw [zs_len] at this; omega, h1, ?_⟩
        exact (HO.out.2.1.alloc HO.out.2.1.size _).trans H3.out.below
      case measure =>
        have h1 := H3.out.len
        simp at h1
        rw [zs_len] at h1
        simp [sliceLen]
        have := HO.out.2.2.1
        have := HO.out.2.2.2.1
        have := HO.out.2.2.2.2
        omega
def rG (h : List UInt8) : Nat → List UInt8 → List UInt8 → List UInt8
  | 0, _, y => y
  | n + 1, m, y => rG h n (m.drop 16) (rT (xorL y (m.take 16)) h 128).1
def rgh (h b : List UInt8) : List UInt8 := rG h ((fillL b).length / 16) (fillL b) (zs 16)
set_option maxHeartbeats 4000000 in
theorem rgh_any (A C : Option Addr) (ca mb cb : Nat) (h b : List UInt8) (w : World) (hh : Rd w A 16 ca h) (hbr : Rd w C mb cb b) (hb : b.length ≤ 100000) :
    Calls Try.prog 17 #[.slice A 16 ca, .slice C mb cb] w fun e w' => ∃ g c, e = .returned (.slice (some ⟨g, 0, none⟩) 16 c) ∧ Own w' w.heap.size (.slice (some ⟨g, 0, none⟩) 16 c) (rgh h b) ∧ Below w.heap.size w w' := by
  obtain ⟨X, hX⟩ : ∃ X, w.heap.size = X := ⟨_, rfl⟩
  have hmk := Try.prog_make 16 (by omega) w
  obtain ⟨w1, hw1⟩ : ∃ w1, w.alloc (.cells (madeCells #[.int .u8 0] 16) 5) = w1 := ⟨_, rfl⟩
  have hO1 : Own w1 X (.slice (some ⟨X, 0, none⟩) 16 16) (zs 16) := by rw [← hw1, ← hX]; exact Own.made w 16 (by unfold maxLen; omega)
  have hB1 : Below X w w1 := by rw [← hw1, ← hX]; exact (Below.refl _ _).alloc (Nat.le_refl _) _
  rw [hw1, hX, show ((16 : Nat) : Int) = 16 from rfl] at hmk
  have hb1 := hbr.below (by rw [hX]; exact hB1)
  have hhl : h.length = 16 := hh.1.symm
  have HH := Lib.hid (And.intro hh (And.intro hO1 (And.intro hB1 (And.intro hb1 hhl))))
  clear hO1 hB1 hw1 hh hbr hb1 hhl
  rw [hX]
  go_enter Try.func17, Try.ntmps17
  go_wp2_with (go_at_call 31; go_must (refine (fill_any _ _ _ b w1 HH.out.2.2.2.1 hb).mono ?_); rintro e w2 ⟨Am, nm, cm, rfl, ho2, hb2⟩; have H2 := Lib.hid (And.intro ho2 hb2); clear ho2 hb2)
  clear hmk
  have hB2 := HH.out.2.2.1.trans (H2.out.2.mono (by rw [← hX]; exact HH.out.2.2.1.size))
  have hy2 := HH.out.2.1.below H2.out.2
  have hnm := H2.out.1.len
  have hfl := fillL_len b
  have hrg : rG h ((fillL b).length / 16) (fillL b) (zs 16) = rgh h b := rfl
  have hfl2 : (fillL b).length ≤ 100016 := by unfold fillL padN; rw [List.length_append, zs_len]; omega
  have H3 := Lib.hid (And.intro hB2 (And.intro hy2 (And.intro H2.out.1.rd (And.intro hnm (And.intro hfl (And.intro hrg hfl2))))))
  clear hB2 hy2 hnm hfl hrg hfl2
  go_loopw [5, 6] (fun yv mv wr => ∃ (k gy cy : Nat) (Am : Option Addr) (cm : Nat) (y m : List UInt8), yv = .slice (some ⟨gy, 0, none⟩) 16 cy ∧ mv = .slice Am (16 * k) cm ∧ Own wr X (.slice (some ⟨gy, 0, none⟩) 16 cy) y ∧ Rd wr Am (16 * k) cm m ∧ Below X w wr ∧ rG h k m y = rgh h b ∧ k ≤ 10000) (fun _ mv _ => sliceLen mv)
  case atStart =>
    obtain ⟨h1, h2, h3, h4, h5, h6, h7⟩ := H3.out
    have h8 : nm = 16 * ((fillL b).length / 16) := by omega
    exact ⟨(fillL b).length / 16, X, 16, Am, cm, zs 16, fillL b, rfl, by rw [← h8], h2, by rw [← h8]; exact h3, h1, h6, by omega⟩
  case round =>
    obtain ⟨k, gy, cy, Am', cm', y, m, rfl, rfl, hy, hm, hB, hg, hk⟩ := hrel
    clear H3 H2
    rcases k with _ | k
    · have hg' : y = rgh h b := hg
      have h0 : ¬ (0 : Int) < 16 * ((0 : Nat) : Int) := by omega
      have HS := Lib.hid (And.intro hy (And.intro hB hg'))
      clear hy hm hB hg hg' hk
      go_wp2_with fail
      go_ret
      exact ⟨gy, cy, rfl, by rw [← HS.out.2.2]; exact HS.out.1, HS.out.2.1⟩
    · have hml := hm.1
      obtain ⟨bm, om, rfl, ha⟩ := hm.addr (by omega)
      have hmc := hm.2.1
      have hcm := hm.2.2.1
      unfold maxLen at hcm
      obtain ⟨n, hn⟩ : ∃ n, n = 16 * (k + 1) := ⟨_, rfl⟩
      rw [← hn] at hm hml hmc ⊢
      have hn16 : 16 ≤ n := by omega
      have hn0 : (0 : Int) < n := by omega
      have hn16' : (16 : Int) ≤ n := by omega
      have hc16 : (16 : Int) ≤ cm' := by omega
      have hc16' : 16 ≤ cm' := by omega
      have hncm : (n : Int) ≤ cm' := by omega
      have hfr := hm.front (k := 16) (by omega)
      have hct := hm.cut (k := 16) (by omega)
      have hnk : n - 16 = 16 * k := by omega
      have HS := Lib.hid (And.intro hy (And.intro hm (And.intro hB (And.intro hg (And.intro hfr (And.intro hct (And.intro hk hnk)))))))
      clear hy hm hB hg hfr hct hk hml ha hmc hn hnk
      by_cases hck : cm' = 16
      · subst hck
        have hct := HS.out.2.2.2.2.2.1
        rw [if_pos rfl] at hct
        have HC := Lib.hid hct
        clear hct
        go_wp2_with fail
        go_at_call 26
        refine (rxor_any _ _ _ _ y (m.take 16) wr HS.out.1.rd HS.out.2.2.2.2.1).mono ?_
        rintro e w4 ⟨rfl, ho4, hb4⟩
        have H4 := Lib.hid (And.intro ho4 hb4)
        have hB4 := HS.out.2.2.1.trans (hb4.mono (by rw [← hX]; exact HS.out.2.2.1.size))
        have HB4 := Lib.hid hB4
        clear ho4 hb4 hB4
        go_wp2_with fail
        go_at_call 18
        refine (rgmul_any _ _ _ _ _ h w4 H4.out.1.rd (HH.out.1.below (by rw [hX]; exact HB4.out))).mono ?_
        rintro e w5 ⟨g5, c5, rfl, ho5, hb5⟩
        have H5 := Lib.hid (And.intro ho5 hb5)
        have hB5 := HB4.out.trans (hb5.mono (by rw [← hX]; exact HB4.out.size))
        have HB5 := Lib.hid hB5
        clear ho5 hb5 hB5
        go_wp2_with fail
        go_roundw
        case rel => exact ⟨k, g5, c5, some ⟨bm, om, none⟩, 16 - 16, _, m.drop 16, rfl, by rw [← HS.out.2.2.2.2.2.2.2], H5.out.1.mono (by rw [← hX]; exact HB4.out.size), by rw [← HS.out.2.2.2.2.2.2.2]; exact (HC.out.below H4.out.2).below H5.out.2, HB5.out, HS.out.2.2.2.1, by have := HS.out.2.2.2.2.2.2.1; omega⟩
        case measure => simp [sliceLen]; omega
      · have hct := HS.out.2.2.2.2.2.1
        rw [if_neg hck] at hct
        simp only [Option.map_some, Addr.add_mid] at hct
        have HC := Lib.hid hct
        clear hct
        go_wp2_with fail
        go_at_call 26
        refine (rxor_any _ _ _ _ y (m.take 16) wr HS.out.1.rd HS.out.2.2.2.2.1).mono ?_
        rintro e w4 ⟨rfl, ho4, hb4⟩
        have H4 := Lib.hid (And.intro ho4 hb4)
        have hB4 := HS.out.2.2.1.trans (hb4.mono (by rw [← hX]; exact HS.out.2.2.1.size))
        have HB4 := Lib.hid hB4
        clear ho4 hb4 hB4
        go_wp2_with fail
        go_at_call 18
        refine (rgmul_any _ _ _ _ _ h w4 H4.out.1.rd (HH.out.1.below (by rw [hX]; exact HB4.out))).mono ?_
        rintro e w5 ⟨g5, c5, rfl, ho5, hb5⟩
        have H5 := Lib.hid (And.intro ho5 hb5)
        have hB5 := HB4.out.trans (hb5.mono (by rw [← hX]; exact HB4.out.size))
        have HB5 := Lib.hid hB5
        clear ho5 hb5 hB5
        go_wp2_with fail
        go_roundw
        case rel => exact ⟨k, g5, c5, some ⟨bm, om + 16, none⟩, cm' - 16, _, m.drop 16, rfl, by rw [← HS.out.2.2.2.2.2.2.2], H5.out.1.mono (by rw [← hX]; exact HB4.out.size), by rw [← HS.out.2.2.2.2.2.2.2]; exact (HC.out.below H4.out.2).below H5.out.2, HB5.out, HS.out.2.2.2.1, by have := HS.out.2.2.2.2.2.2.1; omega⟩
        case measure => simp [sliceLen]; omega
end Go.Proofs.Ytgkkafkdgmdihaa
