/-
  Modes, the document's answer: CMAC, the same as the program's.
  'baileylaw6.ModesCMAC' returns true: the MAC is SP 800-38B's. No condition.
  'baileylaw6.ModesBack' returns true: decrypting undoes encrypting, in every mode. No condition.
-/
import Derived.Test.YtiocmebcbhbcmaaZzMr5
import Derived.Test.YtiocmebcbhbcmaaZzAesR3
import Derived.Test.YtiocmebcbhbcmaaZzMr1
import Derived.Test.YtiocmebcbhbcmaaZzMo12
import Derived.Test.YtiocmebcbhbcmaaZzMr3
namespace Go.Proofs.Ytiocmebcbhbcmaa
set_option maxRecDepth 100000
open Go.RowKit

theorem blkN_enc_len (E D : List UInt8 → List UInt8) (hE : ∀ l, l.length = 16 → (E l).length = 16) : ∀ (q : Nat) (iv p : List UInt8), iv.length = 16 → 16 * q ≤ p.length →
    (blkN 2 true E D q iv p).1.length = 16 * q ∧ (blkN 2 true E D q iv p).2.length = 16
  | 0, iv, p, hi, _ => ⟨rfl, hi⟩
  | q + 1, iv, p, hi, hp => by
    have hF : blkF 2 true E D iv (p.take 16) = (E (xorL (p.take 16) iv), E (xorL (p.take 16) iv)) := by unfold blkF; rw [if_neg (by decide), if_pos rfl]
    have hx : (E (xorL (p.take 16) iv)).length = 16 := hE _ (xorL_lenLe _ _ 16 (by rw [List.length_take]; omega) (by omega))
    have ih := blkN_enc_len E D hE q (E (xorL (p.take 16) iv)) (p.drop 16) hx (by rw [List.length_drop]; omega)
    simp only [blkN]
    rw [hF]
    refine ⟨?_, ih.2⟩
    rw [List.length_append, ih.1, hx]
    omega
theorem cmG_blk (E D : List UInt8 → List UInt8) (hE : ∀ l, l.length = 16 → (E l).length = 16) (l : List UInt8) (hl : l.length = 16) : ∀ (q f : Nat) (iv p : List UInt8), iv.length = 16 → p.length = 16 * q → q ≤ f →
    cmG E f iv (p ++ l) = xorL (blkN 2 true E D q iv p).2 l
  | 0, f, iv, p, hi, hp, _ => by
    obtain rfl : p = [] := List.length_eq_zero_iff.1 (by omega)
    rw [List.nil_append]
    cases f with
    | zero => rfl
    | succ f => show (if l.length ≤ 16 then _ else _) = _; rw [if_pos (by omega)]; rfl
  | q + 1, f, iv, p, hi, hp, hf => by
    obtain ⟨f', rfl⟩ : ∃ f', f = f' + 1 := ⟨f - 1, by omega⟩
    have hF : blkF 2 true E D iv (p.take 16) = (E (xorL (p.take 16) iv), E (xorL (p.take 16) iv)) := by unfold blkF; rw [if_neg (by decide), if_pos rfl]
    have hx : (E (xorL (p.take 16) iv)).length = 16 := hE _ (xorL_lenLe _ _ 16 (by rw [List.length_take]; omega) (by omega))
    have h1 : xorL iv (p ++ l) = xorL (p.take 16) iv := by
      rw [← xorL_take iv (p ++ l), hi, List.take_append_of_le_length (by omega), xorL_comm]
    show (if (p ++ l).length ≤ 16 then _ else cmG E f' (E (xorL iv (p ++ l))) ((p ++ l).drop 16)) = _
    rw [if_neg (by rw [List.length_append]; omega), h1, List.drop_append_of_le_length (by omega), cmG_blk E D hE l hl q f' _ (p.drop 16) hx (by rw [List.length_drop]; omega) (by omega)]
    simp only [blkN]
    rw [hF]
/-- The document's MAC of whole blocks is the program's. -/
theorem cmac_same (E D : List UInt8 → List UInt8) (hE : ∀ l, l.length = 16 → (E l).length = 16) (m K : List UInt8) (k : Nat) (hm : m.length = k + 16) (hk : k % 16 = 0) (hK : K.length = 16) :
    (blkN 2 true E D ((k + 16) / 16) (zs 16) (m.take k ++ xorL (m.drop k) K)).1.drop k = E (xorL (cmG E m.length (zs 16) m) K) ∧ (blkN 2 true E D ((k + 16) / 16) (zs 16) (m.take k ++ xorL (m.drop k) K)).1.length = k + 16 := by
  obtain ⟨q, rfl⟩ : ∃ q, k = 16 * q := ⟨k / 16, by omega⟩
  have hl : (m.drop (16 * q)).length = 16 := by rw [List.length_drop]; omega
  have hp : (m.take (16 * q)).length = 16 * q := by rw [List.length_take]; omega
  have hx : (xorL (m.drop (16 * q)) K).length = 16 := xorL_lenLe _ _ 16 hl (by omega)
  have hq : (16 * q + 16) / 16 = q + 1 := by omega
  obtain ⟨h1, h2⟩ := blkN_enc_len E D hE q (zs 16) (m.take (16 * q)) (zs_len 16) (by omega)
  have hlen := (blkN_enc_len E D hE (q + 1) (zs 16) (m.take (16 * q) ++ xorL (m.drop (16 * q)) K) (zs_len 16) (by rw [List.length_append]; omega)).1
  rw [hq]
  refine ⟨?_, by rw [hlen]; omega⟩
  have hc := cmG_blk E D hE (m.drop (16 * q)) hl q m.length (zs 16) (m.take (16 * q)) (zs_len 16) hp (by omega)
  rw [List.take_append_drop] at hc
  rw [hc]
  have ha := blkN_add 2 true E D 1 q (zs 16) (m.take (16 * q) ++ xorL (m.drop (16 * q)) K)
  have e1 := congrArg Prod.fst ha
  simp only at e1
  rw [e1, blkN_front 2 true E D q (zs 16) (m.take (16 * q)) _ (by omega), List.drop_append_of_le_length (by omega), List.drop_eq_nil_of_le (by omega), List.nil_append]
  rw [List.drop_append_of_le_length (by omega), List.drop_eq_nil_of_le (by omega), List.nil_append]
  simp only [blkN, List.append_nil]
  unfold blkF
  rw [if_neg (by decide), if_pos rfl]
  show E (xorL ((xorL (m.drop (16 * q)) K).take 16) _) = _
  rw [List.take_of_length_le (by omega)]
  congr 1
  rw [xorL_assoc, xorL_comm (blkN 2 true E D q (zs 16) (m.take (16 * q))).2 (m.drop (16 * q)), xorL_assoc, xorL_comm K]
theorem rcmac_no (A C : Option Addr) (m c n cb : Nat) (w : World) (h : m ≠ 16 ∧ m ≠ 24 ∧ m ≠ 32) :
    Calls Try.prog 23 #[.slice A m c, .slice C n cb] w fun e w' => e = .returned (.slice none 0 0) ∧ w' = w := by
  have hc := rnew_no A m c w h
  clear h
  go_enter Try.func23, Try.ntmps23
  go_wp2_with fail
  refine hc.mono ?_
  rintro e w1 ⟨rfl, hw⟩
  subst hw
  go_wp2_with fail
  go_ret
  exact ⟨rfl, rfl⟩
theorem fillL_M (b : List UInt8) : fillL b = b ++ zs (padM b.length) := rfl
set_option maxHeartbeats 4000000 in
theorem rcmac_any (A C : Option Addr) (mk ck n cb : Nat) (k b : List UInt8) (w : World) (hk : Rd w A mk ck k) (hb : Rd w C n cb b) (hko : keyOk k) (hn : n ≤ 90000) :
    Calls Try.prog 23 #[.slice A mk ck, .slice C n cb] w fun e w' => ∃ A' c', e = .returned (.slice A' 16 c') ∧ Rd w' A' 16 c' (cmacF (encL (rks k) ((rks k).length / 16)) b) ∧ Old w w' := by
  have hcall := rnew_any A mk ck k w hk hko
  obtain ⟨TG, hTG⟩ : ∃ T, cmacF (encL (rks k) ((rks k).length / 16)) b = T := ⟨_, rfl⟩
  rw [hTG]
  have HH := Lib.hid (And.intro hcall (And.intro hb (And.intro hb.1 hTG)))
  clear hcall hk hb hTG
  go_enter Try.func23, Try.ntmps23
  go_wp2_with fail
  refine HH.out.1.mono ?_
  rintro e w1 ⟨c, kb, R, cap, g1, g2, rfl, hC, hB⟩
  have hR : (rks k).length / 16 = R := by have : (rks k).length = 16 * R := hC.2.2.1; omega
  have hTG := HH.out.2.2.2
  rw [hR] at hTG
  have hEl : ∀ l : List UInt8, l.length = 16 → (encL (rks k) R l).length = 16 := fun l hl => enc_ne _ R l hl hC.2.2.1
  have hen := REn.of hC
  obtain ⟨E, hE⟩ : ∃ E, encL (rks k) R = E := ⟨_, rfl⟩
  obtain ⟨D, hD⟩ : ∃ D, decL (rks k) R = D := ⟨_, rfl⟩
  rw [hE, hD] at hen
  rw [hE] at hEl hTG
  have hmk := Try.prog_make 16 (by omega) w1
  obtain ⟨wm, hwm⟩ : ∃ wm, w1.alloc (.cells (madeCells #[.int .u8 0] 16) 5) = wm := ⟨_, rfl⟩
  have hOm : Own wm w1.heap.size (.slice (some ⟨w1.heap.size, 0, none⟩) 16 16) (zs 16) := by rw [← hwm]; exact Own.made w1 16 (by unfold maxLen; omega)
  have hBm : Old w1 wm := by rw [← hwm]; exact (Old.refl _).alloc _
  rw [hwm, show ((16 : Nat) : Int) = 16 from rfl] at hmk
  have H1 := Lib.hid (And.intro hen (And.intro hEl (And.intro hB (And.intro hOm (And.intro hBm hTG)))))
  clear hC hen hEl hE hD hR hB hko hOm hBm hTG hwm
  go_upto_region 5 with (first | (go_at_call 33; refine (H1.out.1.1 wm _ _ _ H1.out.2.2.2.2.1 H1.out.2.2.2.1.rd).mono ?_; rintro e we ⟨ge, rfl, hRe, hBe, _⟩; have HE := Lib.hid (And.intro hRe hBe); clear hRe hBe) | (go_at_call 50; refine (rdouble_any _ _ _ we HE.out.1).mono ?_; rintro e wk ⟨rfl, hOk, hBk⟩; have HK := Lib.hid (And.intro hOk.rd ((H1.out.2.2.2.2.1.trans HE.out.2).trans hBk)); clear hOk hBk))
  clear hmk
  go_upto_region 6 with (at_builtin; refine wp_app2 (.const (.slice none 0 0)) (.tmp 18) wk.heap.size (.slice none 0 0) [] (Own.nil _ _) (Nat.le_refl _) C n cb b ((HH.out.2.1.below H1.out.2.2.1).below HK.out.2) (by have := HH.out.2.2.1; simp; omega) rfl rfl rfl rfl ?_; intro A3 n3 c3 w3 hi3 hG3; have HG3 := Lib.hid hG3; clear hG3)
  have ho3 : Own w3 wk.heap.size (.slice A3 n3 c3) b := by have := HG3.out.own; rwa [List.nil_append] at this
  have hn3 : n3 = b.length := ho3.len
  have hn3b : n3 ≤ 90000 := by have := HH.out.2.2.1; omega
  have hB3 : Old wk w3 := HG3.out.below
  have H3 := Lib.hid (And.intro ho3 (And.intro (HK.out.2.trans hB3) (And.intro (HK.out.1.below hB3) hn3)))
  have B3 := Lib.hid hB3.size
  clear ho3 hB3 hn3 hi3 HG3
  go_cut [28] (fun v wx => v = .bool (decide (cmOdd b)) ∧ w3 = wx)
  case first =>
    have hn3 := H3.out.2.2.2
    by_cases h0 : n3 = 0
    · have hd : decide (cmOdd b) = true := decide_eq_true (.inl (by omega))
      have HD := Lib.hid hd
      subst h0
      clear hn3 hd
      go_wp2_with fail
      go_meet
      case rel => exact ⟨by rw [HD.out], rfl⟩
    · have hb0 : ((n3 : Int) == 0) = false := by simp; omega
      have hi0 : ¬ (n3 : Int) = 0 := by omega
      by_cases h16 : 0 < n3 % 16
      · have hd : decide (cmOdd b) = true := decide_eq_true (.inr (by omega))
        have hg : ¬ (n3 : Int) % 16 = 0 := by omega
        have hgd : ((n3 : Int) % 16 != 0) = true := by simpa using hg
        have HD := Lib.hid hd
        clear hn3 hd h0 h16
        go_wp2_with fail
        go_meet
        case rel => exact ⟨by rw [HD.out], rfl⟩
      · have hd : decide (cmOdd b) = false := decide_eq_false (fun h => by unfold cmOdd at h; omega)
        have hg : (n3 : Int) % 16 = 0 := by omega
        have hgd : ((n3 : Int) % 16 != 0) = false := by simpa using hg
        have HD := Lib.hid hd
        clear hn3 hd h0 h16
        go_wp2_with fail
        go_meet
        case rel => exact ⟨by rw [HD.out], rfl⟩
  case rest =>
    obtain ⟨rfl, rfl⟩ := hcut
    obtain ⟨od, hod⟩ : ∃ od, decide (cmOdd b) = od := ⟨_, rfl⟩
    rw [hod]
    have HOd := Lib.hid hod
    clear hod
    go_upto_if 28 with fail
    go_cut [6, 7] from 8 to 62 (fun vk vb wx => ∃ (A4 : Option Addr) (n4 c4 : Nat) (gk : Nat), vb = .slice A4 n4 c4 ∧ vk = .slice (some ⟨gk, 0, none⟩) 16 16 ∧ Rd wx A4 n4 c4 (cmM b) ∧ Rd wx (some ⟨gk, 0, none⟩) 16 16 (cmK E b) ∧ Old w1 wx)
    case first =>
      cases od with
      | true =>
        have hodd : cmOdd b := of_decide_eq_true HOd.out
        have hM : cmM b = (b ++ [128]) ++ zs (padM (b ++ [128]).length) := by unfold cmM; rw [if_pos hodd]
        have hK : cmK E b = dblL (dblL (E (zs 16))) := by unfold cmK; rw [if_pos hodd]
        have HM := Lib.hid (And.intro hM hK)
        clear hodd hM hK
        go_wp2_with (first | (go_at_call 50; refine (rdouble_any _ _ _ _ H3.out.2.2.1).mono ?_; rintro e w5 ⟨rfl, hO5, hB5⟩; have H5 := Lib.hid (And.intro hO5.rd hB5); clear hO5 hB5) | (at_builtin; refine wp_app_lit (.tmp 31) (.tmp 32) wk.heap.size (.slice A3 n3 c3) b (H3.out.1.below H5.out.2) (Nat.le_trans B3.out H5.out.2.size) [128] (by have := H3.out.2.2.2; omega) (by simp) rfl rfl rfl rfl rfl rfl ?_; intro A6 n6 c6 w6 hn6 hG; have H6 := Lib.hid hG; clear hG) | (go_at_call 51; refine (fill_any A6 n6 c6 _ w6 H6.out.own.rd (by simp; have := H3.out.2.2.2; omega)).mono ?_; rintro e w7 ⟨A7, n7, c7, rfl, ho7, hB7⟩; have H7 := Lib.hid (And.intro ho7 hB7); clear ho7 hB7))
        go_meet
        case rel =>
          have hk6 : Rd w6 (some ⟨w3.heap.size, 0, none⟩) 16 16 (dblL (dblL (E (zs 16)))) := ((H5.out.1.below ((Old.refl _).alloc _)).turn (Turn.of_grown H6.out.grown) (fun ad e hm => by
            cases e
            have := (H3.out.1.lt (by simpa using hm)).2
            omega))
          have hw1k : w1.heap.size ≤ wk.heap.size := HK.out.2.size
          exact ⟨A7, n7, c7, _, rfl, rfl, by rw [HM.out.1, ← fillL_M]; exact H7.out.1.rd, by rw [HM.out.2]; exact hk6.below H7.out.2, (((H3.out.2.1.trans H5.out.2).alloc _).trans_below (H6.out.below.mono hw1k)).trans H7.out.2⟩
      | false =>
        have hodd : ¬ cmOdd b := of_decide_eq_false HOd.out
        have hM : cmM b = b := by unfold cmM; rw [if_neg hodd]
        have hK : cmK E b = dblL (E (zs 16)) := by unfold cmK; rw [if_neg hodd]
        have HM := Lib.hid (And.intro hM hK)
        clear hodd hM hK
        go_wp2_with fail
        go_meet
        case rel => exact ⟨A3, n3, c3, _, rfl, rfl, by rw [HM.out.1]; exact H3.out.1.rd, by rw [HM.out.2]; exact H3.out.2.2.1, H3.out.2.1⟩
    case rest =>
      obtain ⟨A4, n4, c4, gk, rfl, rfl, hM, hK, hO4⟩ := hcut
      have hn4 : n4 ≤ 100000 := by
        have h1 := hM.1
        have h2 := HH.out.2.2.1
        rw [h1]
        unfold cmM
        split
        · have := padM_le (b ++ [128]).length
          simp only [List.length_append, zs_len, List.length_cons, List.length_nil] at this ⊢
          omega
        · omega
      have hml := cmM_len b
      rw [← hM.1] at hml
      obtain ⟨kq, hkq⟩ : ∃ kq, n4 - 16 = kq := ⟨_, rfl⟩
      have hw16 : IntKind.i64.wrap ((n4 : Int) - 16) = (kq : Int) := by rw [IntWalk.i64_in _ (by omega)]; omega
      obtain ⟨A6, n6, c6, hn6, hS6, hR6, _⟩ := hM.cut_ex2 (k := kq) (by omega)
      have hn6' : n6 = 16 := by omega
      subst hn6'
      have hsl3 := slice_all3 A4 n4 c4 kq hM.spot (by have := hM.2.1; omega)
      have hfr := hM.front (k := kq) (by omega)
      obtain ⟨b4, o4, e4, _⟩ := hM.addr (by omega)
      rw [e4] at hfr
      have hfr := hfr.recap (c' := kq) (Nat.le_refl _) (by unfold maxLen; omega)
      rw [← e4] at hfr
      have hMl : (cmM b).length = kq + 16 := by rw [← hM.1]; omega
      have HN := Lib.hid (And.intro hM (And.intro hK (And.intro hO4 (And.intro hR6 (And.intro hfr (And.intro hMl (show kq % 16 = 0 by omega)))))))
      have hkqb : kq ≤ 99984 := by omega
      clear hM hK hO4 hR6 hfr hn6 hml hkq e4
      go_upto_region 12 with (first | (go_at_call 52; refine (rxorn_any A6 (some ⟨gk, 0, none⟩) 16 c6 16 16 _ _ wc HN.out.2.2.2.1 HN.out.2.1 (Nat.le_refl _) (by omega)).mono ?_; rintro e w5 ⟨rfl, hO5, hB5⟩; have H5 := Lib.hid (And.intro hO5.rd hB5); clear hO5 hB5) | (at_builtin; refine wp_app_grown (.tmp 50) (.tmp 51) A4 kq kq _ (HN.out.2.2.2.2.1.below H5.out.2) (some ⟨wc.heap.size, 0, none⟩) 16 16 _ H5.out.1 (by omega) (by have h1 := HN.out.2.2.2.2.1.1; have h2 := H5.out.1.1; omega) rfl rfl rfl rfl ?_; intro c7 w7 hc7 hO7 hB7; have H7 := Lib.hid (And.intro hO7 (Old.trans H5.out.2 hB7)); clear hO7 hB7))
      have hmk := Try.prog_make 16 (by omega) w7
      obtain ⟨wn, hwn⟩ : ∃ wn, w7.alloc (.cells (madeCells #[.int .u8 0] 16) 5) = wn := ⟨_, rfl⟩
      have hOn : Own wn w7.heap.size (.slice (some ⟨w7.heap.size, 0, none⟩) 16 16) (zs 16) := by rw [← hwn]; exact Own.made w7 16 (by unfold maxLen; omega)
      have hBn : Old w7 wn := by rw [← hwn]; exact (Old.refl _).alloc _
      rw [hwn, show ((16 : Nat) : Int) = 16 from rfl] at hmk
      have H8 := Lib.hid (And.intro hOn.rd hBn)
      clear hOn hBn hwn
      go_upto_region 13 with (go_at_call 34; refine (rcbc_any c true E D _ _ 16 (kq + 16) c7 (zs 16) _ wn (H1.out.1.below ((HN.out.2.2.1.trans H7.out.2).trans H8.out.2)) H8.out.1 (H7.out.1.rd.below H8.out.2) (by omega)).mono ?_; rintro e w9 ⟨A9, n9, c9, rfl, hO9, hB9⟩; have H9 := Lib.hid (And.intro hO9 hB9); clear hO9 hB9)
      clear hmk
      obtain ⟨s1, s2⟩ := cmac_same E D H1.out.2.1 (cmM b) (cmK E b) kq HN.out.2.2.2.2.2.1 HN.out.2.2.2.2.2.2 HN.out.2.1.1.symm
      have hn9 : n9 = kq + 16 := by rw [H9.out.1.len]; exact s2
      have hw9 : IntKind.i64.wrap ((n9 : Int) - 16) = (kq : Int) := by rw [IntWalk.i64_in _ (by omega)]; omega
      obtain ⟨AA, nA, cA, hnA, hSA, hRA, _⟩ := H9.out.1.rd.cut_ex2 (k := kq) (by omega)
      have hnA' : nA = 16 := by omega
      subst hnA'
      have HZ := Lib.hid (And.intro hRA s1)
      clear hRA s1 s2 hn9 hnA
      go_wp2_with fail
      go_ret
      refine ⟨AA, cA, rfl, ?_, Old.trans (Old.trans (Old.trans (Old.trans H1.out.2.2.1 HN.out.2.2.1) H7.out.2) H8.out.2) H9.out.2⟩
      have h9 := HZ.out.1
      rw [HZ.out.2] at h9
      rw [← H1.out.2.2.2.2.2]
      exact h9
end Go.Proofs.Ytiocmebcbhbcmaa
namespace Go.Proofs.Ytiocmebcbhbcmaa
set_option maxRecDepth 100000
open Go.RowKit

def macF (k b : List UInt8) : List UInt8 := if keyOk k then cmacF (encL (rks k) ((rks k).length / 16)) b else []
theorem cmac_res (A C : Option Addr) (mk ck n cb : Nat) (k b : List UInt8) (w : World) (hk : Rd w A mk ck k) (hb : Rd w C n cb b) (hn : n ≤ 90000) :
    Calls Try.prog 22 #[.slice A mk ck, .slice C n cb] w fun e w' => ∃ A' n' c', e = .returned (.slice A' n' c') ∧ Rd w' A' n' c' (macF k b) ∧ Old w w' := by
  unfold macF
  by_cases h : keyOk k
  · rw [if_pos h]
    refine (cmac_any A C mk ck n cb k b w hk hb h hn).mono ?_
    rintro e w' ⟨g, rfl, h1, h2⟩
    exact ⟨_, _, _, rfl, h1, h2⟩
  · rw [if_neg h]
    have hl := hk.1
    refine (cmac_no A C mk ck n cb w (by unfold keyOk at h; omega)).mono ?_
    rintro e w' ⟨rfl, rfl⟩
    exact ⟨_, _, _, rfl, Rd.nil _, Old.refl _⟩
theorem rcmac_res (A C : Option Addr) (mk ck n cb : Nat) (k b : List UInt8) (w : World) (hk : Rd w A mk ck k) (hb : Rd w C n cb b) (hn : n ≤ 90000) :
    Calls Try.prog 23 #[.slice A mk ck, .slice C n cb] w fun e w' => ∃ A' n' c', e = .returned (.slice A' n' c') ∧ Rd w' A' n' c' (macF k b) ∧ Old w w' := by
  unfold macF
  by_cases h : keyOk k
  · rw [if_pos h]
    refine (rcmac_any A C mk ck n cb k b w hk hb h hn).mono ?_
    rintro e w' ⟨A', c', rfl, h1, h2⟩
    exact ⟨_, _, _, rfl, h1, h2⟩
  · rw [if_neg h]
    have hl := hk.1
    refine (rcmac_no A C mk ck n cb w (by unfold keyOk at h; omega)).mono ?_
    rintro e w' ⟨rfl, rfl⟩
    exact ⟨_, _, _, rfl, Rd.nil _, Old.refl _⟩
set_option maxHeartbeats 2000000 in
theorem modesCMAC_any (A C : Option Addr) (ma ca mb cb : Nat) (k b : List UInt8) (w : World) (hk : Rd w A ma ca k) (hb : Rd w C mb cb b) :
    Calls Try.prog 7 #[.slice A ma ca, .slice C mb cb] w (LawRes w) := by
  have hbeg := mbegun_any w
  have hk2 := hk.short (n := 40)
  have hb2 := hb.short (n := 100)
  have HH := Lib.hid (And.intro hbeg (And.intro hk2 (And.intro hb2 (And.intro hk hb))))
  obtain ⟨m1, hm1⟩ : ∃ m, min ma 40 = m := ⟨_, rfl⟩
  obtain ⟨m2, hm2⟩ : ∃ m, min mb 100 = m := ⟨_, rfl⟩
  obtain ⟨k1, hk1⟩ : ∃ k1, k.take 40 = k1 := ⟨_, rfl⟩
  obtain ⟨b1, hb1⟩ : ∃ b1, b.take 100 = b1 := ⟨_, rfl⟩
  rw [hm1, hk1] at hk2
  rw [hm2, hb1] at hb2
  have hm2b : m2 ≤ 100 := by omega
  have HM := Lib.hid (And.intro hm1 hm2)
  have HK := Lib.hid (And.intro hk2 hb2)
  clear hbeg hk hb hk2 hb2 hm1 hm2 hk1 hb1
  go_enter Try.func7, Try.ntmps7
  go_wp2_with fail
  refine HH.out.1.mono ?_
  rintro e w1 ⟨rfl, hO1⟩
  have H1 := Lib.hid hO1
  clear hO1
  go_wp2_with fail
  refine (short_any A ma ca 40 k w1 (HH.out.2.2.2.1.below H1.out) (by omega)).mono ?_
  rintro e w2 ⟨rfl, rfl⟩
  go_wp2_with fail
  refine (short_any C mb cb 100 b w1 (HH.out.2.2.2.2.below H1.out) (by omega)).mono ?_
  rintro e w3 ⟨rfl, rfl⟩
  rw [HM.out.1, HM.out.2]
  go_upto_region 3 with fail
  refine region_old (by kernel_rfl) (fun wd hHeld hSz => ?_)
  have HSz := Lib.hid hSz
  clear hSz
  have hOd := hHeld
  refine takeL (i := 0) (v := ?_) rfl (by kernel_rfl) (by kernel_rfl) (by kernel_rfl) (fun _ _ _ h => h) (Or.inl ⟨by rfl, ?_⟩) hHeld ?_
  rotate_left
  focus (intro wq hSw; clear hSw; go_simp; try with_reducible rfl)
  try simp only [Act.put, List.setIfInBounds_toArray, List.set_cons_zero, List.set_cons_succ]
  refine takeL (i := 1) (v := ?_) rfl (by kernel_rfl) (by kernel_rfl) (by kernel_rfl) (fun _ _ _ h => h) (Or.inl ⟨by rfl, ?_⟩) hHeld ?_
  rotate_left
  focus (intro wq hSw; clear hSw; go_simp; try with_reducible rfl)
  try simp only [Act.put, List.setIfInBounds_toArray, List.set_cons_zero, List.set_cons_succ]
  refine takeL (i := 2) (v := ?_) rfl (by kernel_rfl) (by kernel_rfl) (by kernel_rfl) (fun _ _ _ h => h) (Or.inl ⟨by rfl, ?_⟩) hHeld ?_
  rotate_left
  focus (intro wq hSw; clear hSw; go_simp; try with_reducible rfl)
  try simp only [Act.put, List.setIfInBounds_toArray, List.set_cons_zero, List.set_cons_succ]
  refine takeL (i := 3) (v := ?_) rfl (by kernel_rfl) (by kernel_rfl) (by kernel_rfl) (fun _ _ _ h => h) (Or.inl ⟨by rfl, ?_⟩) hHeld ?_
  rotate_left
  focus (intro wq hSw; clear hSw; go_simp; try with_reducible rfl)
  try simp only [Act.put, List.setIfInBounds_toArray, List.set_cons_zero, List.set_cons_succ]
  refine takeL (i := 6) (v := ?_) rfl (by kernel_rfl) (by kernel_rfl) (by kernel_rfl) (fun _ _ _ h => h) (Or.inl ⟨by rfl, ?_⟩) hHeld ?_
  rotate_left
  focus (intro wq hSw; clear hSw; go_simp; try with_reducible rfl)
  try simp only [Act.put, List.setIfInBounds_toArray, List.set_cons_zero, List.set_cons_succ]
  refine takeL (i := 7) (v := ?_) rfl (by kernel_rfl) (by kernel_rfl) (by kernel_rfl) (fun _ _ _ h => h) (Or.inl ⟨by rfl, ?_⟩) hHeld ?_
  rotate_left
  focus (intro wq hSw; clear hSw; go_simp; try with_reducible rfl)
  try simp only [Act.put, List.setIfInBounds_toArray, List.set_cons_zero, List.set_cons_succ]
  refine wpAnyH_ready (rs := [4]) (by kernel_rfl) (by simp) ?_
  refine consL rfl (fun K hK => ?_) AllReadyH.nil
  go_simp
  refine (cmac_res A C m1 ca m2 cb k1 b1 wd ((HK.out.1.below H1.out).below hOd) ((HK.out.2.below H1.out).below hOd) (by omega)).mono ?_
  rintro e w4 ⟨A4, n4, c4, rfl, hR4, hO4⟩
  refine hK.out _ _ (hHeld.trans hO4) (fun hHeld => ?_)
  clear hK K
  try simp only [Act.put, List.setIfInBounds_toArray, List.set_cons_zero, List.set_cons_succ]
  refine wpAnyH_old (w1 := w4) (hOd.trans hO4) (fun hHeld => ?_) (Old.refl w4)
  refine takeL (i := 5) (v := ?_) rfl (by kernel_rfl) (by kernel_rfl) (by kernel_rfl) (fun _ _ _ h => h) (Or.inl ⟨by rfl, ?_⟩) hHeld ?_
  rotate_left
  focus (intro wq hSw; have hRun := hR4.str_below hSw; clear hSw; go_simp; try with_reducible rfl)
  try simp only [Act.put, List.setIfInBounds_toArray, List.set_cons_zero, List.set_cons_succ]
  refine wpAnyH_ready (rs := [8]) (by kernel_rfl) (by simp) ?_
  refine consL rfl (fun K hK => ?_) AllReadyH.nil
  go_simp
  refine (rcmac_res A C m1 ca m2 cb k1 b1 w4 (((HK.out.1.below H1.out).below hOd).below hO4) (((HK.out.2.below H1.out).below hOd).below hO4) (by omega)).mono ?_
  rintro e w8 ⟨A8, n8, c8, rfl, hR8, hO8⟩
  refine hK.out _ _ hO8 (fun hHeld => ?_)
  clear hK K
  try simp only [Act.put, List.setIfInBounds_toArray, List.set_cons_zero, List.set_cons_succ]
  refine wpAnyH_old (w1 := w8) hO8 (fun hHeld => ?_) (Old.refl w8)
  refine takeL (i := 9) (v := ?_) rfl (by kernel_rfl) (by kernel_rfl) (by kernel_rfl) (fun _ _ _ h => h) (Or.inl ⟨by rfl, ?_⟩) hHeld ?_
  rotate_left
  focus (intro wq hSw; have hRun := hR8.str_below hSw; clear hSw; go_simp; try with_reducible rfl)
  try simp only [Act.put, List.setIfInBounds_toArray, List.set_cons_zero, List.set_cons_succ]
  refine takeL (i := 10) (v := ?_) rfl (by kernel_rfl) (by kernel_rfl) (by kernel_rfl) (fun _ _ _ h => h) (Or.inl ⟨by rfl, ?_⟩) hHeld ?_
  rotate_left
  focus (intro wq hSw; clear hSw; go_simp; try with_reducible rfl)
  try simp only [Act.put, List.setIfInBounds_toArray, List.set_cons_zero, List.set_cons_succ]
  refine takeL (i := 11) (v := ?_) rfl (by kernel_rfl) (by kernel_rfl) (by kernel_rfl) (fun _ _ _ h => h) (Or.inl ⟨by rfl, ?_⟩) hHeld ?_
  rotate_left
  focus (intro wq hSw; clear hSw; go_simp; try with_reducible rfl)
  try simp only [Act.put, List.setIfInBounds_toArray, List.set_cons_zero, List.set_cons_succ]
  refine takeL (i := 12) (v := ?_) rfl (by kernel_rfl) (by kernel_rfl) (by kernel_rfl) (fun _ _ _ h => h) (Or.inl ⟨by rfl, ?_⟩) hHeld ?_
  rotate_left
  focus (intro wq hSw; clear hSw; go_simp; try with_reducible rfl)
  try simp only [Act.put, List.setIfInBounds_toArray, List.set_cons_zero, List.set_cons_succ]
  refine wpAnyH_done (by kernel_rfl) ?_ _
  refine NoPanic.normal ?_
  have HO := Lib.hid ((H1.out.trans (hOd.trans hO4)).trans hO8)
  clear hOd hHeld hO4 hO8 hR4 hR8
  try simp only [Exit.then]
  try go_at_K
  go_wp2_with fail
  go_ret
  exact ⟨rfl, HO.out⟩
end Go.Proofs.Ytiocmebcbhbcmaa
namespace Go.Proofs.Ytiocmebcbhbcmaa
set_option maxRecDepth 100000
open Go.RowKit

set_option maxHeartbeats 4000000 in
theorem modesBack_any (mode : Int) (A P B : Option Addr) (ma ca mp cp mb cb : Nat) (k p b : List UInt8) (w : World) (hk : Rd w A ma ca k) (hp : Rd w P mp cp p) (hb : Rd w B mb cb b) :
    Calls Try.prog 5 #[.int .i64 mode, .slice A ma ca, .slice P mp cp, .slice B mb cb] w (LawRes w) := by
  have hbeg := mbegun_any w
  have hp2 := hp.short (n := 300)
  have hb2 := hb.short (n := 150)
  have HH := Lib.hid (And.intro hbeg (And.intro hk (And.intro hp hb)))
  obtain ⟨m1, hm1⟩ : ∃ m, min mp 300 = m := ⟨_, rfl⟩
  obtain ⟨m2, hm2⟩ : ∃ m, min mb 150 = m := ⟨_, rfl⟩
  obtain ⟨p1, hp1⟩ : ∃ p1, p.take 300 = p1 := ⟨_, rfl⟩
  obtain ⟨b1, hb1⟩ : ∃ b1, b.take 150 = b1 := ⟨_, rfl⟩
  rw [hm1, hp1] at hp2
  rw [hm2, hb1] at hb2
  have hm1b : m1 ≤ 300 := by omega
  have hm2b : m2 ≤ 150 := by omega
  have HM := Lib.hid (And.intro hm1 hm2)
  have HK := Lib.hid (And.intro hp2 hb2)
  clear hbeg hk hp hb hp2 hb2 hm1 hm2 hp1 hb1
  go_enter Try.func5, Try.ntmps5
  go_wp2_with fail
  refine HH.out.1.mono ?_
  rintro e w1 ⟨rfl, hO1⟩
  have H1 := Lib.hid hO1
  clear hO1
  go_wp2_with fail
  refine (short_any P mp cp 300 p w1 (HH.out.2.2.1.below H1.out) (by omega)).mono ?_
  rintro e w2 ⟨rfl, rfl⟩
  go_wp2_with fail
  refine (short_any B mb cb 150 b w1 (HH.out.2.2.2.below H1.out) (by omega)).mono ?_
  rintro e w3 ⟨rfl, rfl⟩
  rw [HM.out.1, HM.out.2]
  go_upto_region 3 with fail
  by_cases hc : mode = 1 ∨ mode = 2
  · obtain ⟨q, hq⟩ : ∃ q, m2 / 16 = q := ⟨_, rfl⟩
    have hq1 : Int.tdiv (m2 : Int) 16 = (q : Int) := by rw [Int.tdiv_eq_ediv_of_nonneg (by omega)]; omega
    have hq2 : (m2 : Int) / 16 = (q : Int) := by omega
    obtain ⟨n5, hn5⟩ : ∃ n5, q * 16 = n5 := ⟨_, rfl⟩
    have hn5i : (q : Int) * 16 = (n5 : Int) := by omega
    have hn5w : IntKind.i64.wrap (n5 : Int) = (n5 : Int) := IntWalk.i64_in _ (by omega)
    have hcb := HK.out.2.2.1
    have hsl := slice_to B m2 cb n5 HK.out.2.spot (by omega)
    obtain ⟨b5, hb5⟩ : ∃ b5, b1.take n5 = b5 := ⟨_, rfl⟩
    have hr5 := HK.out.2.front (k := n5) (by omega)
    rw [hb5] at hr5
    have hdiv : mode = 1 ∨ mode = 2 → b5.length % 16 = 0 := fun _ => by rw [← hr5.1]; omega
    have hn5b : n5 ≤ 150 := by omega
    have H5 := Lib.hid (And.intro hr5 hdiv)
    clear hq hn5 hb5 hr5 hdiv hcb
    rcases hc with rfl | rfl
    · go_upto_region 5 with fail
      obtain ⟨V, hV⟩ : ∃ V, allF 1 true k p1 b5 = V := ⟨_, rfl⟩
      have hall := all_back 1 k p1 b5 H5.out.2
      rw [hV] at hall
      obtain ⟨W4, v4⟩ := V
      simp only at hall
      have HV := Lib.hid (And.intro hV hall)
      clear hV hall
      go_wp2_with fail
      refine (modesAll_any 1 true A P B ma ca m1 cp n5 cb k p1 b5 w1 (HH.out.2.1.below H1.out) (HK.out.1.below H1.out) (H5.out.1.below H1.out) (by omega) (by omega)).mono ?_
      rintro e w4 ⟨A4, n4, c4, rfl, hO4, hB4⟩
      rw [HV.out.1] at hO4
      simp only [HV.out.1]
      have hn4 : n4 ≤ 100000 := by have h1 := hO4.len; have h2 := HV.out.2.2.2; have h3 := H5.out.1.1; simp only at h1; omega
      have H4 := Lib.hid (And.intro hO4.rd (H1.out.trans hB4))
      clear hO4 hB4
      by_cases hv : v4 = 0
      · subst hv
        go_wp2_with fail
        refine (modesAll_any 1 false A P A4 ma ca m1 cp n4 c4 k p1 W4 w4 (HH.out.2.1.below H4.out.2) (HK.out.1.below H4.out.2) H4.out.1 (by omega) hn4).mono ?_
        rintro e w6 ⟨A6, n6, c6, rfl, hO6, hB6⟩
        have hbk := HV.out.2.2.1 (by first | rfl | trivial)
        rw [hbk] at hO6
        have HB := Lib.hid hbk
        clear hbk
        simp only [HB.out]
        have s5 := hO6.rd.str
        have s6 := (H5.out.1.below (H4.out.2.trans hB6)).str
        have H6 := Lib.hid (H4.out.2.trans hB6)
        clear hO6 hB6
        go_wp2_with fail
        go_ret
        exact ⟨rfl, H6.out⟩
      · have hm := HV.out.2.1 hv
        have hvb : (v4 != 0) = true := by simpa using hv
        have HMm := Lib.hid hm
        clear hm
        go_wp2_with fail
        refine (rmay_any 1 A P ma ca m1 cp k p1 w4 (HH.out.2.1.below H4.out.2) (HK.out.1.below H4.out.2) (by omega)).mono ?_
        rintro e w6 ⟨rfl, rfl⟩
        rw [HMm.out]
        go_wp2_with fail
        go_ret
        exact ⟨rfl, H4.out.2⟩
    · go_upto_region 5 with fail
      obtain ⟨V, hV⟩ : ∃ V, allF 2 true k p1 b5 = V := ⟨_, rfl⟩
      have hall := all_back 2 k p1 b5 H5.out.2
      rw [hV] at hall
      obtain ⟨W4, v4⟩ := V
      simp only at hall
      have HV := Lib.hid (And.intro hV hall)
      clear hV hall
      go_wp2_with fail
      refine (modesAll_any 2 true A P B ma ca m1 cp n5 cb k p1 b5 w1 (HH.out.2.1.below H1.out) (HK.out.1.below H1.out) (H5.out.1.below H1.out) (by omega) (by omega)).mono ?_
      rintro e w4 ⟨A4, n4, c4, rfl, hO4, hB4⟩
      rw [HV.out.1] at hO4
      simp only [HV.out.1]
      have hn4 : n4 ≤ 100000 := by have h1 := hO4.len; have h2 := HV.out.2.2.2; have h3 := H5.out.1.1; simp only at h1; omega
      have H4 := Lib.hid (And.intro hO4.rd (H1.out.trans hB4))
      clear hO4 hB4
      by_cases hv : v4 = 0
      · subst hv
        go_wp2_with fail
        refine (modesAll_any 2 false A P A4 ma ca m1 cp n4 c4 k p1 W4 w4 (HH.out.2.1.below H4.out.2) (HK.out.1.below H4.out.2) H4.out.1 (by omega) hn4).mono ?_
        rintro e w6 ⟨A6, n6, c6, rfl, hO6, hB6⟩
        have hbk := HV.out.2.2.1 (by first | rfl | trivial)
        rw [hbk] at hO6
        have HB := Lib.hid hbk
        clear hbk
        simp only [HB.out]
        have s5 := hO6.rd.str
        have s6 := (H5.out.1.below (H4.out.2.trans hB6)).str
        have H6 := Lib.hid (H4.out.2.trans hB6)
        clear hO6 hB6
        go_wp2_with fail
        go_ret
        exact ⟨rfl, H6.out⟩
      · have hm := HV.out.2.1 hv
        have hvb : (v4 != 0) = true := by simpa using hv
        have HMm := Lib.hid hm
        clear hm
        go_wp2_with fail
        refine (rmay_any 2 A P ma ca m1 cp k p1 w4 (HH.out.2.1.below H4.out.2) (HK.out.1.below H4.out.2) (by omega)).mono ?_
        rintro e w6 ⟨rfl, rfl⟩
        rw [HMm.out]
        go_wp2_with fail
        go_ret
        exact ⟨rfl, H4.out.2⟩
  · have hc1 : ¬ mode = 1 := fun h => hc (.inl h)
    have hc2 : ¬ mode = 2 := fun h => hc (.inr h)
    have hd1 : (mode == 1) = false := by simpa using hc1
    have hd2 : (mode == 2) = false := by simpa using hc2
    obtain ⟨n5, rfl⟩ : ∃ n5, n5 = m2 := ⟨_, rfl⟩
    obtain ⟨b5, rfl⟩ : ∃ b5, b5 = b1 := ⟨_, rfl⟩
    have hn5b : n5 ≤ 150 := hm2b
    have hdv : mode = 1 ∨ mode = 2 → b5.length % 16 = 0 := fun h => absurd h hc
    have H5 := Lib.hid (And.intro HK.out.2 hdv)
    clear hc hc1 hc2 hdv
    go_upto_region 5 with fail
    obtain ⟨V, hV⟩ : ∃ V, allF mode true k p1 b5 = V := ⟨_, rfl⟩
    have hall := all_back mode k p1 b5 H5.out.2
    rw [hV] at hall
    obtain ⟨W4, v4⟩ := V
    simp only at hall
    have HV := Lib.hid (And.intro hV hall)
    clear hV hall
    go_wp2_with fail
    refine (modesAll_any mode true A P B ma ca m1 cp n5 cb k p1 b5 w1 (HH.out.2.1.below H1.out) (HK.out.1.below H1.out) (H5.out.1.below H1.out) (by omega) (by omega)).mono ?_
    rintro e w4 ⟨A4, n4, c4, rfl, hO4, hB4⟩
    rw [HV.out.1] at hO4
    simp only [HV.out.1]
    have hn4 : n4 ≤ 100000 := by have h1 := hO4.len; have h2 := HV.out.2.2.2; have h3 := H5.out.1.1; simp only at h1; omega
    have H4 := Lib.hid (And.intro hO4.rd (H1.out.trans hB4))
    clear hO4 hB4
    by_cases hv : v4 = 0
    · subst hv
      go_wp2_with fail
      refine (modesAll_any mode false A P A4 ma ca m1 cp n4 c4 k p1 W4 w4 (HH.out.2.1.below H4.out.2) (HK.out.1.below H4.out.2) H4.out.1 (by omega) hn4).mono ?_
      rintro e w6 ⟨A6, n6, c6, rfl, hO6, hB6⟩
      have hbk := HV.out.2.2.1 (by first | rfl | trivial)
      rw [hbk] at hO6
      have HB := Lib.hid hbk
      clear hbk
      simp only [HB.out]
      have s5 := hO6.rd.str
      have s6 := (H5.out.1.below (H4.out.2.trans hB6)).str
      have H6 := Lib.hid (H4.out.2.trans hB6)
      clear hO6 hB6
      go_wp2_with fail
      go_ret
      exact ⟨rfl, H6.out⟩
    · have hm := HV.out.2.1 hv
      have hvb : (v4 != 0) = true := by simpa using hv
      have HMm := Lib.hid hm
      clear hm
      go_wp2_with fail
      refine (rmay_any mode A P ma ca m1 cp k p1 w4 (HH.out.2.1.below H4.out.2) (HK.out.1.below H4.out.2) (by omega)).mono ?_
      rintro e w6 ⟨rfl, rfl⟩
      rw [HMm.out]
      go_wp2_with fail
      go_ret
      exact ⟨rfl, H4.out.2⟩
end Go.Proofs.Ytiocmebcbhbcmaa
