/-
  The reference's Fill and GHASH.
  Modes, the document's answer: CMAC, the same as the program's.
-/
import Derived.Test.YtiocmebcbhbcmaaZzAesR2
namespace Go.Proofs.Ytiocmebcbhbcmaa
set_option maxRecDepth 100000
open Go.RowKit

/-- How many zeros fill up n bytes. -/
def padN (n : Nat) : Nat := (16 - n % 16) % 16
def fillL (b : List UInt8) : List UInt8 := b ++ zs (padN b.length)
theorem fillL_len (b : List UInt8) : (fillL b).length % 16 = 0 := by
  unfold fillL padN
  rw [List.length_append, zs_len]; omega
theorem zs_succ (n : Nat) : zs (n + 1) = zs n ++ [0] := by unfold zs; rw [List.replicate_succ']
theorem fill_any (A : Option Addr) (m c : Nat) (b : List UInt8) (w : World) (h : Rd w A m c b) (hb : b.length ≤ 100000) :
    Calls Try.prog 51 #[.slice A m c] w fun e w' => ∃ A' n' c', e = .returned (.slice A' n' c') ∧ Own w' w.heap.size (.slice A' n' c') (fillL b) ∧ Below w.heap.size w w' := by
  go_enter Try.func51, Try.ntmps51
  go_wp2_with (at_builtin; go_must (refine wp_app2 (.const (.slice none 0 0)) (.tmp 4) w.heap.size (.slice none 0 0) [] (Own.nil _ _) (Nat.le_refl _) A m c b h (by simp; omega) rfl rfl rfl rfl ?_); intro A1 n1 c1 w1 hi1 hG; have H1 := Lib.hid hG; clear hG)
  go_loopw [3] (fun v wr => ∃ (k : Nat) (A' : Option Addr) (n' c' : Nat), k ≤ padN b.length ∧ v = .slice A' n' c' ∧ n' = b.length + k ∧ Own wr w.heap.size (.slice A' n' c') (b ++ zs k) ∧ Below w.heap.size w wr) (fun v _ => b.length + 16 - sliceLen v)
  case atStart =>
    have := H1.out.own
    rw [List.nil_append] at this
    refine ⟨0, A1, n1, c1, by omega, rfl, by have := H1.out.len; simp at this; omega, by simpa [zs] using this, H1.out.below⟩
  case round =>
    obtain ⟨k, A', n', c', hk, rfl, hn, hO, hB⟩ := hrel
    have hp : padN b.length < 16 := by unfold padN; omega
    by_cases hz : n' % 16 = 0
    · have hm1 : (n' : Int).tmod 16 = 0 := by rw [Int.tmod_eq_emod_of_nonneg (by omega)]; omega
      have hm2 : (n' : Int) % 16 = 0 := by omega
      have hke : k = padN b.length := by unfold padN at hk ⊢; omega
      subst hke
      have HO := Lib.hid (And.intro hO hB)
      clear hO hB hn hk
      go_wp2_with fail
      go_ret
      exact ⟨A', n', c', rfl, HO.out.1, HO.out.2⟩
    · obtain ⟨r, hr⟩ : ∃ r, r = n' % 16 := ⟨_, rfl⟩
      have hr0 : ¬ (r : Int) = 0 := by omega
      have hr0' : ((r : Int) != 0) = true := by simp; omega
      have hm1 : (n' : Int).tmod 16 = (r : Int) := by rw [Int.tmod_eq_emod_of_nonneg (by omega)]; omega
      have hm2 : (n' : Int) % 16 = (r : Int) := by omega
      have hk2 : k < padN b.length := by unfold padN at hk ⊢; omega
      have HO := Lib.hid (And.intro hO (And.intro hB (And.intro hn (And.intro hk2 hp))))
      clear hO hB hn hk hr hz hk2 hp
      go_wp2_with (at_builtin; go_must (refine wp_app_lit (.tmp 10) (.tmp 11) w.heap.size _ (b ++ zs k) HO.out.1 HO.out.2.1.size [0] (by rw [List.length_append, zs_len]; have := HO.out.2.2.2.1; have := HO.out.2.2.2.2; omega) (by simp) rfl rfl rfl rfl rfl rfl ?_); intro A3 n3 c3 w3 hi3 hG3; have H3 := Lib.hid hG3; clear hG3)
      go_roundw
      case rel =>
        have h1 := H3.out.own
        rw [List.append_assoc, ← zs_succ] at h1
        refine ⟨k + 1, A3, n3, c3, by have := HO.out.2.2.2.1; omega, rfl, by have := H3.out.len; simp at this; rw [zs_len] at this; omega, h1, ?_⟩
        exact (HO.out.2.1.alloc HO.out.2.1.size _).trans H3.out.below
      case measure =>
        have h1 := H3.out.len
        simp at h1
        rw [zs_len] at h1
        simp [sliceLen]
        have := HO.out.2.2.1
        have := HO.out.2.2.2.1
        have := HO.out.2.2.2.2
        omega
def rG (h : List UInt8) : Nat → List UInt8 → List UInt8 → List UInt8
  | 0, _, y => y
  | n + 1, m, y => rG h n (m.drop 16) (rT (xorL y (m.take 16)) h 128).1
def rgh (h b : List UInt8) : List UInt8 := rG h ((fillL b).length / 16) (fillL b) (zs 16)
set_option maxHeartbeats 4000000 in
theorem rgh_any (A C : Option Addr) (ca mb cb : Nat) (h b : List UInt8) (w : World) (hh : Rd w A 16 ca h) (hbr : Rd w C mb cb b) (hb : b.length ≤ 100000) :
    Calls Try.prog 62 #[.slice A 16 ca, .slice C mb cb] w fun e w' => ∃ g c, e = .returned (.slice (some ⟨g, 0, none⟩) 16 c) ∧ Own w' w.heap.size (.slice (some ⟨g, 0, none⟩) 16 c) (rgh h b) ∧ Below w.heap.size w w' := by
  obtain ⟨X, hX⟩ : ∃ X, w.heap.size = X := ⟨_, rfl⟩
  have hmk := Try.prog_make 16 (by omega) w
  obtain ⟨w1, hw1⟩ : ∃ w1, w.alloc (.cells (madeCells #[.int .u8 0] 16) 5) = w1 := ⟨_, rfl⟩
  have hO1 : Own w1 X (.slice (some ⟨X, 0, none⟩) 16 16) (zs 16) := by rw [← hw1, ← hX]; exact Own.made w 16 (by unfold maxLen; omega)
  have hB1 : Below X w w1 := by rw [← hw1, ← hX]; exact (Below.refl _ _).alloc (Nat.le_refl _) _
  rw [hw1, hX, show ((16 : Nat) : Int) = 16 from rfl] at hmk
  have hb1 := hbr.below (by rw [hX]; exact hB1)
  have hhl : h.length = 16 := hh.1.symm
  have HH := Lib.hid (And.intro hh (And.intro hO1 (And.intro hB1 (And.intro hb1 hhl))))
  clear hO1 hB1 hw1 hh hbr hb1 hhl
  rw [hX]
  go_enter Try.func62, Try.ntmps62
  go_wp2_with (go_at_call 51; go_must (refine (fill_any _ _ _ b w1 HH.out.2.2.2.1 hb).mono ?_); rintro e w2 ⟨Am, nm, cm, rfl, ho2, hb2⟩; have H2 := Lib.hid (And.intro ho2 hb2); clear ho2 hb2)
  clear hmk
  have hB2 := HH.out.2.2.1.trans (H2.out.2.mono (by rw [← hX]; exact HH.out.2.2.1.size))
  have hy2 := HH.out.2.1.below H2.out.2
  have hnm := H2.out.1.len
  have hfl := fillL_len b
  have hrg : rG h ((fillL b).length / 16) (fillL b) (zs 16) = rgh h b := rfl
  have hfl2 : (fillL b).length ≤ 100016 := by unfold fillL padN; rw [List.length_append, zs_len]; omega
  have H3 := Lib.hid (And.intro hB2 (And.intro hy2 (And.intro H2.out.1.rd (And.intro hnm (And.intro hfl (And.intro hrg hfl2))))))
  clear hB2 hy2 hnm hfl hrg hfl2
  go_loopw [5, 6] (fun yv mv wr => ∃ (k gy cy : Nat) (Am : Option Addr) (cm : Nat) (y m : List UInt8), yv = .slice (some ⟨gy, 0, none⟩) 16 cy ∧ mv = .slice Am (16 * k) cm ∧ Own wr X (.slice (some ⟨gy, 0, none⟩) 16 cy) y ∧ Rd wr Am (16 * k) cm m ∧ Below X w wr ∧ rG h k m y = rgh h b ∧ k ≤ 10000) (fun _ mv _ => sliceLen mv)
  case atStart =>
    obtain ⟨h1, h2, h3, h4, h5, h6, h7⟩ := H3.out
    have h8 : nm = 16 * ((fillL b).length / 16) := by omega
    exact ⟨(fillL b).length / 16, X, 16, Am, cm, zs 16, fillL b, rfl, by rw [← h8], h2, by rw [← h8]; exact h3, h1, h6, by omega⟩
  case round =>
    obtain ⟨k, gy, cy, Am', cm', y, m, rfl, rfl, hy, hm, hB, hg, hk⟩ := hrel
    clear H3 H2
    rcases k with _ | k
    · have hg' : y = rgh h b := hg
      have h0 : ¬ (0 : Int) < 16 * ((0 : Nat) : Int) := by omega
      have HS := Lib.hid (And.intro hy (And.intro hB hg'))
      clear hy hm hB hg hg' hk
      go_wp2_with fail
      go_ret
      exact ⟨gy, cy, rfl, by rw [← HS.out.2.2]; exact HS.out.1, HS.out.2.1⟩
    · have hml := hm.1
      obtain ⟨bm, om, rfl, ha⟩ := hm.addr (by omega)
      have hmc := hm.2.1
      have hcm := hm.2.2.1
      unfold maxLen at hcm
      obtain ⟨n, hn⟩ : ∃ n, n = 16 * (k + 1) := ⟨_, rfl⟩
      rw [← hn] at hm hml hmc ⊢
      have hn16 : 16 ≤ n := by omega
      have hn0 : (0 : Int) < n := by omega
      have hn16' : (16 : Int) ≤ n := by omega
      have hc16 : (16 : Int) ≤ cm' := by omega
      have hc16' : 16 ≤ cm' := by omega
      have hncm : (n : Int) ≤ cm' := by omega
      have hfr := hm.front (k := 16) (by omega)
      have hct := hm.cut (k := 16) (by omega)
      have hnk : n - 16 = 16 * k := by omega
      have HS := Lib.hid (And.intro hy (And.intro hm (And.intro hB (And.intro hg (And.intro hfr (And.intro hct (And.intro hk hnk)))))))
      clear hy hm hB hg hfr hct hk hml ha hmc hn hnk
      by_cases hck : cm' = 16
      · subst hck
        have hct := HS.out.2.2.2.2.2.1
        rw [if_pos rfl] at hct
        have HC := Lib.hid hct
        clear hct
        go_wp2_with fail
        go_at_call 52
        refine (rxor_any _ _ _ _ y (m.take 16) wr HS.out.1.rd HS.out.2.2.2.2.1).mono ?_
        rintro e w4 ⟨rfl, ho4, hb4⟩
        have H4 := Lib.hid (And.intro ho4 hb4)
        have hB4 := HS.out.2.2.1.trans (hb4.mono (by rw [← hX]; exact HS.out.2.2.1.size))
        have HB4 := Lib.hid hB4
        clear ho4 hb4 hB4
        go_wp2_with fail
        go_at_call 76
        refine (rgmul_any _ _ _ _ _ h w4 H4.out.1.rd (HH.out.1.below (by rw [hX]; exact HB4.out))).mono ?_
        rintro e w5 ⟨g5, c5, rfl, ho5, hb5⟩
        have H5 := Lib.hid (And.intro ho5 hb5)
        have hB5 := HB4.out.trans (hb5.mono (by rw [← hX]; exact HB4.out.size))
        have HB5 := Lib.hid hB5
        clear ho5 hb5 hB5
        go_wp2_with fail
        go_roundw
        case rel => exact ⟨k, g5, c5, some ⟨bm, om, none⟩, 16 - 16, _, m.drop 16, rfl, by rw [← HS.out.2.2.2.2.2.2.2], H5.out.1.mono (by rw [← hX]; exact HB4.out.size), by rw [← HS.out.2.2.2.2.2.2.2]; exact (HC.out.below H4.out.2).below H5.out.2, HB5.out, HS.out.2.2.2.1, by have := HS.out.2.2.2.2.2.2.1; omega⟩
        case measure => simp [sliceLen]; omega
      · have hct := HS.out.2.2.2.2.2.1
        rw [if_neg hck] at hct
        simp only [Option.map_some, Addr.add_mid] at hct
        have HC := Lib.hid hct
        clear hct
        go_wp2_with fail
        go_at_call 52
        refine (rxor_any _ _ _ _ y (m.take 16) wr HS.out.1.rd HS.out.2.2.2.2.1).mono ?_
        rintro e w4 ⟨rfl, ho4, hb4⟩
        have H4 := Lib.hid (And.intro ho4 hb4)
        have hB4 := HS.out.2.2.1.trans (hb4.mono (by rw [← hX]; exact HS.out.2.2.1.size))
        have HB4 := Lib.hid hB4
        clear ho4 hb4 hB4
        go_wp2_with fail
        go_at_call 76
        refine (rgmul_any _ _ _ _ _ h w4 H4.out.1.rd (HH.out.1.below (by rw [hX]; exact HB4.out))).mono ?_
        rintro e w5 ⟨g5, c5, rfl, ho5, hb5⟩
        have H5 := Lib.hid (And.intro ho5 hb5)
        have hB5 := HB4.out.trans (hb5.mono (by rw [← hX]; exact HB4.out.size))
        have HB5 := Lib.hid hB5
        clear ho5 hb5 hB5
        go_wp2_with fail
        go_roundw
        case rel => exact ⟨k, g5, c5, some ⟨bm, om + 16, none⟩, cm' - 16, _, m.drop 16, rfl, by rw [← HS.out.2.2.2.2.2.2.2], H5.out.1.mono (by rw [← hX]; exact HB4.out.size), by rw [← HS.out.2.2.2.2.2.2.2]; exact (HC.out.below H4.out.2).below H5.out.2, HB5.out, HS.out.2.2.2.1, by have := HS.out.2.2.2.2.2.2.1; omega⟩
        case measure => simp [sliceLen]; omega
end Go.Proofs.Ytiocmebcbhbcmaa
namespace Go.Proofs.Ytiocmebcbhbcmaa
set_option maxRecDepth 100000
open Go.RowKit

theorem blkN_enc_len (E D : List UInt8 → List UInt8) (hE : ∀ l, l.length = 16 → (E l).length = 16) : ∀ (q : Nat) (iv p : List UInt8), iv.length = 16 → 16 * q ≤ p.length →
    (blkN 2 true E D q iv p).1.length = 16 * q ∧ (blkN 2 true E D q iv p).2.length = 16
  | 0, iv, p, hi, _ => ⟨rfl, hi⟩
  | q + 1, iv, p, hi, hp => by
    have hF : blkF 2 true E D iv (p.take 16) = (E (xorL (p.take 16) iv), E (xorL (p.take 16) iv)) := by unfold blkF; rw [if_neg (by decide), if_pos rfl]
    have hx : (E (xorL (p.take 16) iv)).length = 16 := hE _ (xorL_lenLe _ _ 16 (by rw [List.length_take]; omega) (by omega))
    have ih := blkN_enc_len E D hE q (E (xorL (p.take 16) iv)) (p.drop 16) hx (by rw [List.length_drop]; omega)
    simp only [blkN]
    rw [hF]
    refine ⟨?_, ih.2⟩
    rw [List.length_append, ih.1, hx]
    omega
theorem cmG_blk (E D : List UInt8 → List UInt8) (hE : ∀ l, l.length = 16 → (E l).length = 16) (l : List UInt8) (hl : l.length = 16) : ∀ (q f : Nat) (iv p : List UInt8), iv.length = 16 → p.length = 16 * q → q ≤ f →
    cmG E f iv (p ++ l) = xorL (blkN 2 true E D q iv p).2 l
  | 0, f, iv, p, hi, hp, _ => by
    obtain rfl : p = [] := List.length_eq_zero_iff.1 (by omega)
    rw [List.nil_append]
    cases f with
    | zero => rfl
    | succ f => show (if l.length ≤ 16 then _ else _) = _; rw [if_pos (by omega)]; rfl
  | q + 1, f, iv, p, hi, hp, hf => by
    obtain ⟨f', rfl⟩ : ∃ f', f = f' + 1 := ⟨f - 1, by omega⟩
    have hF : blkF 2 true E D iv (p.take 16) = (E (xorL (p.take 16) iv), E (xorL (p.take 16) iv)) := by unfold blkF; rw [if_neg (by decide), if_pos rfl]
    have hx : (E (xorL (p.take 16) iv)).length = 16 := hE _ (xorL_lenLe _ _ 16 (by rw [List.length_take]; omega) (by omega))
    have h1 : xorL iv (p ++ l) = xorL (p.take 16) iv := by
      rw [← xorL_take iv (p ++ l), hi, List.take_append_of_le_length (by omega), xorL_comm]
    show (if (p ++ l).length ≤ 16 then _ else cmG E f' (E (xorL iv (p ++ l))) ((p ++ l).drop 16)) = _
    rw [if_neg (by rw [List.length_append]; omega), h1, List.drop_append_of_le_length (by omega), cmG_blk E D hE l hl q f' _ (p.drop 16) hx (by rw [List.length_drop]; omega) (by omega)]
    simp only [blkN]
    rw [hF]
/-- The document's MAC of whole blocks is the program's. -/
theorem cmac_same (E D : List UInt8 → List UInt8) (hE : ∀ l, l.length = 16 → (E l).length = 16) (m K : List UInt8) (k : Nat) (hm : m.length = k + 16) (hk : k % 16 = 0) (hK : K.length = 16) :
    (blkN 2 true E D ((k + 16) / 16) (zs 16) (m.take k ++ xorL (m.drop k) K)).1.drop k = E (xorL (cmG E m.length (zs 16) m) K) ∧ (blkN 2 true E D ((k + 16) / 16) (zs 16) (m.take k ++ xorL (m.drop k) K)).1.length = k + 16 := by
  obtain ⟨q, rfl⟩ : ∃ q, k = 16 * q := ⟨k / 16, by omega⟩
  have hl : (m.drop (16 * q)).length = 16 := by rw [List.length_drop]; omega
  have hp : (m.take (16 * q)).length = 16 * q := by rw [List.length_take]; omega
  have hx : (xorL (m.drop (16 * q)) K).length = 16 := xorL_lenLe _ _ 16 hl (by omega)
  have hq : (16 * q + 16) / 16 = q + 1 := by omega
  obtain ⟨h1, h2⟩ := blkN_enc_len E D hE q (zs 16) (m.take (16 * q)) (zs_len 16) (by omega)
  have hlen := (blkN_enc_len E D hE (q + 1) (zs 16) (m.take (16 * q) ++ xorL (m.drop (16 * q)) K) (zs_len 16) (by rw [List.length_append]; omega)).1
  rw [hq]
  refine ⟨?_, by rw [hlen]; omega⟩
  have hc := cmG_blk E D hE (m.drop (16 * q)) hl q m.length (zs 16) (m.take (16 * q)) (zs_len 16) hp (by omega)
  rw [List.take_append_drop] at hc
  rw [hc]
  have ha := blkN_add 2 true E D 1 q (zs 16) (m.take (16 * q) ++ xorL (m.drop (16 * q)) K)
  have e1 := congrArg Prod.fst ha
  simp only at e1
  rw [e1, blkN_front 2 true E D q (zs 16) (m.take (16 * q)) _ (by omega), List.drop_append_of_le_length (by omega), List.drop_eq_nil_of_le (by omega), List.nil_append]
  rw [List.drop_append_of_le_length (by omega), List.drop_eq_nil_of_le (by omega), List.nil_append]
  simp only [blkN, List.append_nil]
  unfold blkF
  rw [if_neg (by decide), if_pos rfl]
  show E (xorL ((xorL (m.drop (16 * q)) K).take 16) _) = _
  rw [List.take_of_length_le (by omega)]
  congr 1
  rw [xorL_assoc, xorL_comm (blkN 2 true E D q (zs 16) (m.take (16 * q))).2 (m.drop (16 * q)), xorL_assoc, xorL_comm K]
theorem rcmac_no (A C : Option Addr) (m c n cb : Nat) (w : World) (h : m ≠ 16 ∧ m ≠ 24 ∧ m ≠ 32) :
    Calls Try.prog 23 #[.slice A m c, .slice C n cb] w fun e w' => e = .returned (.slice none 0 0) ∧ w' = w := by
  have hc := rnew_no A m c w h
  clear h
  go_enter Try.func23, Try.ntmps23
  go_wp2_with fail
  refine hc.mono ?_
  rintro e w1 ⟨rfl, hw⟩
  subst hw
  go_wp2_with fail
  go_ret
  exact ⟨rfl, rfl⟩
theorem fillL_M (b : List UInt8) : fillL b = b ++ zs (padM b.length) := rfl
set_option maxHeartbeats 4000000 in
theorem rcmac_any (A C : Option Addr) (mk ck n cb : Nat) (k b : List UInt8) (w : World) (hk : Rd w A mk ck k) (hb : Rd w C n cb b) (hko : keyOk k) (hn : n ≤ 90000) :
    Calls Try.prog 23 #[.slice A mk ck, .slice C n cb] w fun e w' => ∃ A' c', e = .returned (.slice A' 16 c') ∧ Rd w' A' 16 c' (cmacF (encL (rks k) ((rks k).length / 16)) b) ∧ Old w w' := by
  have hcall := rnew_any A mk ck k w hk hko
  obtain ⟨TG, hTG⟩ : ∃ T, cmacF (encL (rks k) ((rks k).length / 16)) b = T := ⟨_, rfl⟩
  rw [hTG]
  have HH := Lib.hid (And.intro hcall (And.intro hb (And.intro hb.1 hTG)))
  clear hcall hk hb hTG
  go_enter Try.func23, Try.ntmps23
  go_wp2_with fail
  refine HH.out.1.mono ?_
  rintro e w1 ⟨c, kb, R, cap, g1, g2, rfl, hC, hB⟩
  have hR : (rks k).length / 16 = R := by have : (rks k).length = 16 * R := hC.2.2.1; omega
  have hTG := HH.out.2.2.2
  rw [hR] at hTG
  have hEl : ∀ l : List UInt8, l.length = 16 → (encL (rks k) R l).length = 16 := fun l hl => enc_ne _ R l hl hC.2.2.1
  have hen := REn.of hC
  obtain ⟨E, hE⟩ : ∃ E, encL (rks k) R = E := ⟨_, rfl⟩
  obtain ⟨D, hD⟩ : ∃ D, decL (rks k) R = D := ⟨_, rfl⟩
  rw [hE, hD] at hen
  rw [hE] at hEl hTG
  have hmk := Try.prog_make 16 (by omega) w1
  obtain ⟨wm, hwm⟩ : ∃ wm, w1.alloc (.cells (madeCells #[.int .u8 0] 16) 5) = wm := ⟨_, rfl⟩
  have hOm : Own wm w1.heap.size (.slice (some ⟨w1.heap.size, 0, none⟩) 16 16) (zs 16) := by rw [← hwm]; exact Own.made w1 16 (by unfold maxLen; omega)
  have hBm : Old w1 wm := by rw [← hwm]; exact (Old.refl _).alloc _
  rw [hwm, show ((16 : Nat) : Int) = 16 from rfl] at hmk
  have H1 := Lib.hid (And.intro hen (And.intro hEl (And.intro hB (And.intro hOm (And.intro hBm hTG)))))
  clear hC hen hEl hE hD hR hB hko hOm hBm hTG hwm
  go_upto_region 5 with (first | (go_at_call 33; refine (H1.out.1.1 wm _ _ _ H1.out.2.2.2.2.1 H1.out.2.2.2.1.rd).mono ?_; rintro e we ⟨ge, rfl, hRe, hBe, _⟩; have HE := Lib.hid (And.intro hRe hBe); clear hRe hBe) | (go_at_call 50; refine (rdouble_any _ _ _ we HE.out.1).mono ?_; rintro e wk ⟨rfl, hOk, hBk⟩; have HK := Lib.hid (And.intro hOk.rd ((H1.out.2.2.2.2.1.trans HE.out.2).trans hBk)); clear hOk hBk))
  clear hmk
  go_upto_region 6 with (at_builtin; refine wp_app2 (.const (.slice none 0 0)) (.tmp 18) wk.heap.size (.slice none 0 0) [] (Own.nil _ _) (Nat.le_refl _) C n cb b ((HH.out.2.1.below H1.out.2.2.1).below HK.out.2) (by have := HH.out.2.2.1; simp; omega) rfl rfl rfl rfl ?_; intro A3 n3 c3 w3 hi3 hG3; have HG3 := Lib.hid hG3; clear hG3)
  have ho3 : Own w3 wk.heap.size (.slice A3 n3 c3) b := by have := HG3.out.own; rwa [List.nil_append] at this
  have hn3 : n3 = b.length := ho3.len
  have hn3b : n3 ≤ 90000 := by have := HH.out.2.2.1; omega
  have hB3 : Old wk w3 := HG3.out.below
  have H3 := Lib.hid (And.intro ho3 (And.intro (HK.out.2.trans hB3) (And.intro (HK.out.1.below hB3) hn3)))
  have B3 := Lib.hid hB3.size
  clear ho3 hB3 hn3 hi3 HG3
  go_cut [28] (fun v wx => v = .bool (decide (cmOdd b)) ∧ w3 = wx)
  case first =>
    have hn3 := H3.out.2.2.2
    by_cases h0 : n3 = 0
    · have hd : decide (cmOdd b) = true := decide_eq_true (.inl (by omega))
      have HD := Lib.hid hd
      subst h0
      clear hn3 hd
      go_wp2_with fail
      go_meet
      case rel => exact ⟨by rw [HD.out], rfl⟩
    · have hb0 : ((n3 : Int) == 0) = false := by simp; omega
      have hi0 : ¬ (n3 : Int) = 0 := by omega
      by_cases h16 : 0 < n3 % 16
      · have hd : decide (cmOdd b) = true := decide_eq_true (.inr (by omega))
        have hg : ¬ (n3 : Int) % 16 = 0 := by omega
        have hgd : ((n3 : Int) % 16 != 0) = true := by simpa using hg
        have HD := Lib.hid hd
        clear hn3 hd h0 h16
        go_wp2_with fail
        go_meet
        case rel => exact ⟨by rw [HD.out], rfl⟩
      · have hd : decide (cmOdd b) = false := decide_eq_false (fun h => by unfold cmOdd at h; omega)
        have hg : (n3 : Int) % 16 = 0 := by omega
        have hgd : ((n3 : Int) % 16 != 0) = false := by simpa using hg
        have HD := Lib.hid hd
        clear hn3 hd h0 h16
        go_wp2_with fail
        go_meet
        case rel => exact ⟨by rw [HD.out], rfl⟩
  case rest =>
    obtain ⟨rfl, rfl⟩ := hcut
    obtain ⟨od, hod⟩ : ∃ od, decide (cmOdd b) = od := ⟨_, rfl⟩
    rw [hod]
    have HOd := Lib.hid hod
    clear hod
    go_upto_if 28 with fail
    go_cut [6, 7] from 8 to 62 (fun vk vb wx => ∃ (A4 : Option Addr) (n4 c4 : Nat) (gk : Nat), vb = .slice A4 n4 c4 ∧ vk = .slice (some ⟨gk, 0, none⟩) 16 16 ∧ Rd wx A4 n4 c4 (cmM b) ∧ Rd wx (some ⟨gk, 0, none⟩) 16 16 (cmK E b) ∧ Old w1 wx)
    case first =>
      cases od with
      | true =>
        have hodd : cmOdd b := of_decide_eq_true HOd.out
        have hM : cmM b = (b ++ [128]) ++ zs (padM (b ++ [128]).length) := by unfold cmM; rw [if_pos hodd]
        have hK : cmK E b = dblL (dblL (E (zs 16))) := by unfold cmK; rw [if_pos hodd]
        have HM := Lib.hid (And.intro hM hK)
        clear hodd hM hK
        go_wp2_with (first | (go_at_call 50; refine (rdouble_any _ _ _ _ H3.out.2.2.1).mono ?_; rintro e w5 ⟨rfl, hO5, hB5⟩; have H5 := Lib.hid (And.intro hO5.rd hB5); clear hO5 hB5) | (at_builtin; refine wp_app_lit (.tmp 31) (.tmp 32) wk.heap.size (.slice A3 n3 c3) b (H3.out.1.below H5.out.2) (Nat.le_trans B3.out H5.out.2.size) [128] (by have := H3.out.2.2.2; omega) (by simp) rfl rfl rfl rfl rfl rfl ?_; intro A6 n6 c6 w6 hn6 hG; have H6 := Lib.hid hG; clear hG) | (go_at_call 51; refine (fill_any A6 n6 c6 _ w6 H6.out.own.rd (by simp; have := H3.out.2.2.2; omega)).mono ?_; rintro e w7 ⟨A7, n7, c7, rfl, ho7, hB7⟩; have H7 := Lib.hid (And.intro ho7 hB7); clear ho7 hB7))
        go_meet
        case rel =>
          have hk6 : Rd w6 (some ⟨w3.heap.size, 0, none⟩) 16 16 (dblL (dblL (E (zs 16)))) := ((H5.out.1.below ((Old.refl _).alloc _)).turn (Turn.of_grown H6.out.grown) (fun ad e hm => by
            cases e
            have := (H3.out.1.lt (by simpa using hm)).2
            omega))
          have hw1k : w1.heap.size ≤ wk.heap.size := HK.out.2.size
          exact ⟨A7, n7, c7, _, rfl, rfl, by rw [HM.out.1, ← fillL_M]; exact H7.out.1.rd, by rw [HM.out.2]; exact hk6.below H7.out.2, (((H3.out.2.1.trans H5.out.2).alloc _).trans_below (H6.out.below.mono hw1k)).trans H7.out.2⟩
      | false =>
        have hodd : ¬ cmOdd b := of_decide_eq_false HOd.out
        have hM : cmM b = b := by unfold cmM; rw [if_neg hodd]
        have hK : cmK E b = dblL (E (zs 16)) := by unfold cmK; rw [if_neg hodd]
        have HM := Lib.hid (And.intro hM hK)
        clear hodd hM hK
        go_wp2_with fail
        go_meet
        case rel => exact ⟨A3, n3, c3, _, rfl, rfl, by rw [HM.out.1]; exact H3.out.1.rd, by rw [HM.out.2]; exact H3.out.2.2.1, H3.out.2.1⟩
    case rest =>
      obtain ⟨A4, n4, c4, gk, rfl, rfl, hM, hK, hO4⟩ := hcut
      have hn4 : n4 ≤ 100000 := by
        have h1 := hM.1
        have h2 := HH.out.2.2.1
        rw [h1]
        unfold cmM
        split
        · have := padM_le (b ++ [128]).length
          simp only [List.length_append, zs_len, List.length_cons, List.length_nil] at this ⊢
          omega
        · omega
      have hml := cmM_len b
      rw [← hM.1] at hml
      obtain ⟨kq, hkq⟩ : ∃ kq, n4 - 16 = kq := ⟨_, rfl⟩
      have hw16 : IntKind.i64.wrap ((n4 : Int) - 16) = (kq : Int) := by rw [IntWalk.i64_in _ (by omega)]; omega
      obtain ⟨A6, n6, c6, hn6, hS6, hR6, _⟩ := hM.cut_ex2 (k := kq) (by omega)
      have hn6' : n6 = 16 := by omega
      subst hn6'
      have hsl3 := slice_all3 A4 n4 c4 kq hM.spot (by have := hM.2.1; omega)
      have hfr := hM.front (k := kq) (by omega)
      obtain ⟨b4, o4, e4, _⟩ := hM.addr (by omega)
      rw [e4] at hfr
      have hfr := hfr.recap (c' := kq) (Nat.le_refl _) (by unfold maxLen; omega)
      rw [← e4] at hfr
      have hMl : (cmM b).length = kq + 16 := by rw [← hM.1]; omega
      have HN := Lib.hid (And.intro hM (And.intro hK (And.intro hO4 (And.intro hR6 (And.intro hfr (And.intro hMl (show kq % 16 = 0 by omega)))))))
      have hkqb : kq ≤ 99984 := by omega
      clear hM hK hO4 hR6 hfr hn6 hml hkq e4
      go_upto_region 12 with (first | (go_at_call 52; refine (rxorn_any A6 (some ⟨gk, 0, none⟩) 16 c6 16 16 _ _ wc HN.out.2.2.2.1 HN.out.2.1 (Nat.le_refl _) (by omega)).mono ?_; rintro e w5 ⟨rfl, hO5, hB5⟩; have H5 := Lib.hid (And.intro hO5.rd hB5); clear hO5 hB5) | (at_builtin; refine wp_app_grown (.tmp 50) (.tmp 51) A4 kq kq _ (HN.out.2.2.2.2.1.below H5.out.2) (some ⟨wc.heap.size, 0, none⟩) 16 16 _ H5.out.1 (by omega) (by have h1 := HN.out.2.2.2.2.1.1; have h2 := H5.out.1.1; omega) rfl rfl rfl rfl ?_; intro c7 w7 hc7 hO7 hB7; have H7 := Lib.hid (And.intro hO7 (Old.trans H5.out.2 hB7)); clear hO7 hB7))
      have hmk := Try.prog_make 16 (by omega) w7
      obtain ⟨wn, hwn⟩ : ∃ wn, w7.alloc (.cells (madeCells #[.int .u8 0] 16) 5) = wn := ⟨_, rfl⟩
      have hOn : Own wn w7.heap.size (.slice (some ⟨w7.heap.size, 0, none⟩) 16 16) (zs 16) := by rw [← hwn]; exact Own.made w7 16 (by unfold maxLen; omega)
      have hBn : Old w7 wn := by rw [← hwn]; exact (Old.refl _).alloc _
      rw [hwn, show ((16 : Nat) : Int) = 16 from rfl] at hmk
      have H8 := Lib.hid (And.intro hOn.rd hBn)
      clear hOn hBn hwn
      go_upto_region 13 with (go_at_call 34; refine (rcbc_any c true E D _ _ 16 (kq + 16) c7 (zs 16) _ wn (H1.out.1.below ((HN.out.2.2.1.trans H7.out.2).trans H8.out.2)) H8.out.1 (H7.out.1.rd.below H8.out.2) (by omega)).mono ?_; rintro e w9 ⟨A9, n9, c9, rfl, hO9, hB9⟩; have H9 := Lib.hid (And.intro hO9 hB9); clear hO9 hB9)
      clear hmk
      obtain ⟨s1, s2⟩ := cmac_same E D H1.out.2.1 (cmM b) (cmK E b) kq HN.out.2.2.2.2.2.1 HN.out.2.2.2.2.2.2 HN.out.2.1.1.symm
      have hn9 : n9 = kq + 16 := by rw [H9.out.1.len]; exact s2
      have hw9 : IntKind.i64.wrap ((n9 : Int) - 16) = (kq : Int) := by rw [IntWalk.i64_in _ (by omega)]; omega
      obtain ⟨AA, nA, cA, hnA, hSA, hRA, _⟩ := H9.out.1.rd.cut_ex2 (k := kq) (by omega)
      have hnA' : nA = 16 := by omega
      subst hnA'
      have HZ := Lib.hid (And.intro hRA s1)
      clear hRA s1 s2 hn9 hnA
      go_wp2_with fail
      go_ret
      refine ⟨AA, cA, rfl, ?_, Old.trans (Old.trans (Old.trans (Old.trans H1.out.2.2.1 HN.out.2.2.1) H7.out.2) H8.out.2) H9.out.2⟩
      have h9 := HZ.out.1
      rw [HZ.out.2] at h9
      rw [← H1.out.2.2.2.2.2]
      exact h9
end Go.Proofs.Ytiocmebcbhbcmaa
