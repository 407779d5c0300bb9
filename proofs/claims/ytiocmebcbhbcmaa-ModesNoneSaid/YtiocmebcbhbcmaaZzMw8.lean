/-
  Modes, the document's answer: CMAC, the same as the program's.
  'baileylaw6.ModesCMAC' returns true: the MAC is SP 800-38B's. No condition.
  'baileylaw6.ModesNone' returns true: no stream is over and gives nothing. No condition.
-/
import Derived.Test.YtiocmebcbhbcmaaZzMr5
import Derived.Test.YtiocmebcbhbcmaaZzAesR3
import Derived.Test.YtiocmebcbhbcmaaZzMr1
import Derived.Test.YtiocmebcbhbcmaaZzMo12
import Derived.Test.YtiocmebcbhbcmaaZzRange
import Derived.RangeFuncBound
import Derived.RangeFuncCalls
import Derived.OwnWalkIn
import Derived.TacticsInMore
import Derived.LoopNIn
import Derived.LoopIn
import Derived.Lib.SlBytesConst
namespace Go.Proofs.Ytiocmebcbhbcmaa
set_option maxRecDepth 100000
open Go.RowKit

theorem blkN_enc_len (E D : List UInt8 → List UInt8) (hE : ∀ l, l.length = 16 → (E l).length = 16) : ∀ (q : Nat) (iv p : List UInt8), iv.length = 16 → 16 * q ≤ p.length →
    (blkN 2 true E D q iv p).1.length = 16 * q ∧ (blkN 2 true E D q iv p).2.length = 16
  | 0, iv, p, hi, _ => ⟨rfl, hi⟩
  | q + 1, iv, p, hi, hp => by
    have hF : blkF 2 true E D iv (p.take 16) = (E (xorL (p.take 16) iv), E (xorL (p.take 16) iv)) := by unfold blkF; rw [if_neg (by decide), if_pos rfl]
    have hx : (E (xorL (p.take 16) iv)).length = 16 := hE _ (xorL_lenLe _ _ 16 (by rw [List.length_take]; omega) (by omega))
    have ih := blkN_enc_len E D hE q (E (xorL (p.take 16) iv)) (p.drop 16) hx (by rw [List.length_drop]; omega)
    simp only [blkN]
    rw [hF]
    refine ⟨?_, ih.2⟩
    rw [List.length_append, ih.1, hx]
    omega
theorem cmG_blk (E D : List UInt8 → List UInt8) (hE : ∀ l, l.length = 16 → (E l).length = 16) (l : List UInt8) (hl : l.length = 16) : ∀ (q f : Nat) (iv p : List UInt8), iv.length = 16 → p.length = 16 * q → q ≤ f →
    cmG E f iv (p ++ l) = xorL (blkN 2 true E D q iv p).2 l
  | 0, f, iv, p, hi, hp, _ => by
    obtain rfl : p = [] := List.length_eq_zero_iff.1 (by omega)
    rw [List.nil_append]
    cases f with
    | zero => rfl
    | succ f => show (if l.length ≤ 16 then _ else _) = _; rw [if_pos (by omega)]; rfl
  | q + 1, f, iv, p, hi, hp, hf => by
    obtain ⟨f', rfl⟩ : ∃ f', f = f' + 1 := ⟨f - 1, by omega⟩
    have hF : blkF 2 true E D iv (p.take 16) = (E (xorL (p.take 16) iv), E (xorL (p.take 16) iv)) := by unfold blkF; rw [if_neg (by decide), if_pos rfl]
    have hx : (E (xorL (p.take 16) iv)).length = 16 := hE _ (xorL_lenLe _ _ 16 (by rw [List.length_take]; omega) (by omega))
    have h1 : xorL iv (p ++ l) = xorL (p.take 16) iv := by
      rw [← xorL_take iv (p ++ l), hi, List.take_append_of_le_length (by omega), xorL_comm]
    show (if (p ++ l).length ≤ 16 then _ else cmG E f' (E (xorL iv (p ++ l))) ((p ++ l).drop 16)) = _
    rw [if_neg (by rw [List.length_append]; omega), h1, List.drop_append_of_le_length (by omega), cmG_blk E D hE l hl q f' _ (p.drop 16) hx (by rw [List.length_drop]; omega) (by omega)]
    simp only [blkN]
    rw [hF]
/-- The document's MAC of whole blocks is the program's. -/
theorem cmac_same (E D : List UInt8 → List UInt8) (hE : ∀ l, l.length = 16 → (E l).length = 16) (m K : List UInt8) (k : Nat) (hm : m.length = k + 16) (hk : k % 16 = 0) (hK : K.length = 16) :
    (blkN 2 true E D ((k + 16) / 16) (zs 16) (m.take k ++ xorL (m.drop k) K)).1.drop k = E (xorL (cmG E m.length (zs 16) m) K) ∧ (blkN 2 true E D ((k + 16) / 16) (zs 16) (m.take k ++ xorL (m.drop k) K)).1.length = k + 16 := by
  obtain ⟨q, rfl⟩ : ∃ q, k = 16 * q := ⟨k / 16, by omega⟩
  have hl : (m.drop (16 * q)).length = 16 := by rw [List.length_drop]; omega
  have hp : (m.take (16 * q)).length = 16 * q := by rw [List.length_take]; omega
  have hx : (xorL (m.drop (16 * q)) K).length = 16 := xorL_lenLe _ _ 16 hl (by omega)
  have hq : (16 * q + 16) / 16 = q + 1 := by omega
  obtain ⟨h1, h2⟩ := blkN_enc_len E D hE q (zs 16) (m.take (16 * q)) (zs_len 16) (by omega)
  have hlen := (blkN_enc_len E D hE (q + 1) (zs 16) (m.take (16 * q) ++ xorL (m.drop (16 * q)) K) (zs_len 16) (by rw [List.length_append]; omega)).1
  rw [hq]
  refine ⟨?_, by rw [hlen]; omega⟩
  have hc := cmG_blk E D hE (m.drop (16 * q)) hl q m.length (zs 16) (m.take (16 * q)) (zs_len 16) hp (by omega)
  rw [List.take_append_drop] at hc
  rw [hc]
  have ha := blkN_add 2 true E D 1 q (zs 16) (m.take (16 * q) ++ xorL (m.drop (16 * q)) K)
  have e1 := congrArg Prod.fst ha
  simp only at e1
  rw [e1, blkN_front 2 true E D q (zs 16) (m.take (16 * q)) _ (by omega), List.drop_append_of_le_length (by omega), List.drop_eq_nil_of_le (by omega), List.nil_append]
  rw [List.drop_append_of_le_length (by omega), List.drop_eq_nil_of_le (by omega), List.nil_append]
  simp only [blkN, List.append_nil]
  unfold blkF
  rw [if_neg (by decide), if_pos rfl]
  show E (xorL ((xorL (m.drop (16 * q)) K).take 16) _) = _
  rw [List.take_of_length_le (by omega)]
  congr 1
  rw [xorL_assoc, xorL_comm (blkN 2 true E D q (zs 16) (m.take (16 * q))).2 (m.drop (16 * q)), xorL_assoc, xorL_comm K]
theorem rcmac_no (A C : Option Addr) (m c n cb : Nat) (w : World) (h : m ≠ 16 ∧ m ≠ 24 ∧ m ≠ 32) :
    Calls Try.prog 23 #[.slice A m c, .slice C n cb] w fun e w' => e = .returned (.slice none 0 0) ∧ w' = w := by
  have hc := rnew_no A m c w h
  clear h
  go_enter Try.func23, Try.ntmps23
  go_wp2_with fail
  refine hc.mono ?_
  rintro e w1 ⟨rfl, hw⟩
  subst hw
  go_wp2_with fail
  go_ret
  exact ⟨rfl, rfl⟩
theorem fillL_M (b : List UInt8) : fillL b = b ++ zs (padM b.length) := rfl
set_option maxHeartbeats 4000000 in
theorem rcmac_any (A C : Option Addr) (mk ck n cb : Nat) (k b : List UInt8) (w : World) (hk : Rd w A mk ck k) (hb : Rd w C n cb b) (hko : keyOk k) (hn : n ≤ 90000) :
    Calls Try.prog 23 #[.slice A mk ck, .slice C n cb] w fun e w' => ∃ A' c', e = .returned (.slice A' 16 c') ∧ Rd w' A' 16 c' (cmacF (encL (rks k) ((rks k).length / 16)) b) ∧ Old w w' := by
  have hcall := rnew_any A mk ck k w hk hko
  obtain ⟨TG, hTG⟩ : ∃ T, cmacF (encL (rks k) ((rks k).length / 16)) b = T := ⟨_, rfl⟩
  rw [hTG]
  have HH := Lib.hid (And.intro hcall (And.intro hb (And.intro hb.1 hTG)))
  clear hcall hk hb hTG
  go_enter Try.func23, Try.ntmps23
  go_wp2_with fail
  refine HH.out.1.mono ?_
  rintro e w1 ⟨c, kb, R, cap, g1, g2, rfl, hC, hB⟩
  have hR : (rks k).length / 16 = R := by have : (rks k).length = 16 * R := hC.2.2.1; omega
  have hTG := HH.out.2.2.2
  rw [hR] at hTG
  have hEl : ∀ l : List UInt8, l.length = 16 → (encL (rks k) R l).length = 16 := fun l hl => enc_ne _ R l hl hC.2.2.1
  have hen := REn.of hC
  obtain ⟨E, hE⟩ : ∃ E, encL (rks k) R = E := ⟨_, rfl⟩
  obtain ⟨D, hD⟩ : ∃ D, decL (rks k) R = D := ⟨_, rfl⟩
  rw [hE, hD] at hen
  rw [hE] at hEl hTG
  have hmk := Try.prog_make 16 (by omega) w1
  obtain ⟨wm, hwm⟩ : ∃ wm, w1.alloc (.cells (madeCells #[.int .u8 0] 16) 5) = wm := ⟨_, rfl⟩
  have hOm : Own wm w1.heap.size (.slice (some ⟨w1.heap.size, 0, none⟩) 16 16) (zs 16) := by rw [← hwm]; exact Own.made w1 16 (by unfold maxLen; omega)
  have hBm : Old w1 wm := by rw [← hwm]; exact (Old.refl _).alloc _
  rw [hwm, show ((16 : Nat) : Int) = 16 from rfl] at hmk
  have H1 := Lib.hid (And.intro hen (And.intro hEl (And.intro hB (And.intro hOm (And.intro hBm hTG)))))
  clear hC hen hEl hE hD hR hB hko hOm hBm hTG hwm
  go_upto_region 5 with (first | (go_at_call 33; refine (H1.out.1.1 wm _ _ _ H1.out.2.2.2.2.1 H1.out.2.2.2.1.rd).mono ?_; rintro e we ⟨ge, rfl, hRe, hBe, _⟩; have HE := Lib.hid (And.intro hRe hBe); clear hRe hBe) | (go_at_call 50; refine (rdouble_any _ _ _ we HE.out.1).mono ?_; rintro e wk ⟨rfl, hOk, hBk⟩; have HK := Lib.hid (And.intro hOk.rd ((H1.out.2.2.2.2.1.trans HE.out.2).trans hBk)); clear hOk hBk))
  clear hmk
  go_upto_region 6 with (at_builtin; refine wp_app2 (.const (.slice none 0 0)) (.tmp 18) wk.heap.size (.slice none 0 0) [] (Own.nil _ _) (Nat.le_refl _) C n cb b ((HH.out.2.1.below H1.out.2.2.1).below HK.out.2) (by have := HH.out.2.2.1; simp; omega) rfl rfl rfl rfl ?_; intro A3 n3 c3 w3 hi3 hG3; have HG3 := Lib.hid hG3; clear hG3)
  have ho3 : Own w3 wk.heap.size (.slice A3 n3 c3) b := by have := HG3.out.own; rwa [List.nil_append] at this
  have hn3 : n3 = b.length := ho3.len
  have hn3b : n3 ≤ 90000 := by have := HH.out.2.2.1; omega
  have hB3 : Old wk w3 := HG3.out.below
  have H3 := Lib.hid (And.intro ho3 (And.intro (HK.out.2.trans hB3) (And.intro (HK.out.1.below hB3) hn3)))
  have B3 := Lib.hid hB3.size
  clear ho3 hB3 hn3 hi3 HG3
  go_cut [28] (fun v wx => v = .bool (decide (cmOdd b)) ∧ w3 = wx)
  case first =>
    have hn3 := H3.out.2.2.2
    by_cases h0 : n3 = 0
    · have hd : decide (cmOdd b) = true := decide_eq_true (.inl (by omega))
      have HD := Lib.hid hd
      subst h0
      clear hn3 hd
      go_wp2_with fail
      go_meet
      case rel => exact ⟨by rw [HD.out], rfl⟩
    · have hb0 : ((n3 : Int) == 0) = false := by simp; omega
      have hi0 : ¬ (n3 : Int) = 0 := by omega
      by_cases h16 : 0 < n3 % 16
      · have hd : decide (cmOdd b) = true := decide_eq_true (.inr (by omega))
        have hg : ¬ (n3 : Int) % 16 = 0 := by omega
        have hgd : ((n3 : Int) % 16 != 0) = true := by simpa using hg
        have HD := Lib.hid hd
        clear hn3 hd h0 h16
        go_wp2_with fail
        go_meet
        case rel => exact ⟨by rw [HD.out], rfl⟩
      · have hd : decide (cmOdd b) = false := decide_eq_false (fun h => by unfold cmOdd at h; omega)
        have hg : (n3 : Int) % 16 = 0 := by omega
        have hgd : ((n3 : Int) % 16 != 0) = false := by simpa using hg
        have HD := Lib.hid hd
        clear hn3 hd h0 h16
        go_wp2_with fail
        go_meet
        case rel => exact ⟨by rw [HD.out], rfl⟩
  case rest =>
    obtain ⟨rfl, rfl⟩ := hcut
    obtain ⟨od, hod⟩ : ∃ od, decide (cmOdd b) = od := ⟨_, rfl⟩
    rw [hod]
    have HOd := Lib.hid hod
    clear hod
    go_upto_if 28 with fail
    go_cut [6, 7] from 8 to 62 (fun vk vb wx => ∃ (A4 : Option Addr) (n4 c4 : Nat) (gk : Nat), vb = .slice A4 n4 c4 ∧ vk = .slice (some ⟨gk, 0, none⟩) 16 16 ∧ Rd wx A4 n4 c4 (cmM b) ∧ Rd wx (some ⟨gk, 0, none⟩) 16 16 (cmK E b) ∧ Old w1 wx)
    case first =>
      cases od with
      | true =>
        have hodd : cmOdd b := of_decide_eq_true HOd.out
        have hM : cmM b = (b ++ [128]) ++ zs (padM (b ++ [128]).length) := by unfold cmM; rw [if_pos hodd]
        have hK : cmK E b = dblL (dblL (E (zs 16))) := by unfold cmK; rw [if_pos hodd]
        have HM := Lib.hid (And.intro hM hK)
        clear hodd hM hK
        go_wp2_with (first | (go_at_call 50; refine (rdouble_any _ _ _ _ H3.out.2.2.1).mono ?_; rintro e w5 ⟨rfl, hO5, hB5⟩; have H5 := Lib.hid (And.intro hO5.rd hB5); clear hO5 hB5) | (at_builtin; refine wp_app_lit (.tmp 31) (.tmp 32) wk.heap.size (.slice A3 n3 c3) b (H3.out.1.below H5.out.2) (Nat.le_trans B3.out H5.out.2.size) [128] (by have := H3.out.2.2.2; omega) (by simp) rfl rfl rfl rfl rfl rfl ?_; intro A6 n6 c6 w6 hn6 hG; have H6 := Lib.hid hG; clear hG) | (go_at_call 51; refine (fill_any A6 n6 c6 _ w6 H6.out.own.rd (by simp; have := H3.out.2.2.2; omega)).mono ?_; rintro e w7 ⟨A7, n7, c7, rfl, ho7, hB7⟩; have H7 := Lib.hid (And.intro ho7 hB7); clear ho7 hB7))
        go_meet
        case rel =>
          have hk6 : Rd w6 (some ⟨w3.heap.size, 0, none⟩) 16 16 (dblL (dblL (E (zs 16)))) := ((H5.out.1.below ((Old.refl _).alloc _)).turn (Turn.of_grown H6.out.grown) (fun ad e hm => by
            cases e
            have := (H3.out.1.lt (by simpa using hm)).2
            omega))
          have hw1k : w1.heap.size ≤ wk.heap.size := HK.out.2.size
          exact ⟨A7, n7, c7, _, rfl, rfl, by rw [HM.out.1, ← fillL_M]; exact H7.out.1.rd, by rw [HM.out.2]; exact hk6.below H7.out.2, (((H3.out.2.1.trans H5.out.2).alloc _).trans_below (H6.out.below.mono hw1k)).trans H7.out.2⟩
      | false =>
        have hodd : ¬ cmOdd b := of_decide_eq_false HOd.out
        have hM : cmM b = b := by unfold cmM; rw [if_neg hodd]
        have hK : cmK E b = dblL (E (zs 16)) := by unfold cmK; rw [if_neg hodd]
        have HM := Lib.hid (And.intro hM hK)
        clear hodd hM hK
        go_wp2_with fail
        go_meet
        case rel => exact ⟨A3, n3, c3, _, rfl, rfl, by rw [HM.out.1]; exact H3.out.1.rd, by rw [HM.out.2]; exact H3.out.2.2.1, H3.out.2.1⟩
    case rest =>
      obtain ⟨A4, n4, c4, gk, rfl, rfl, hM, hK, hO4⟩ := hcut
      have hn4 : n4 ≤ 100000 := by
        have h1 := hM.1
        have h2 := HH.out.2.2.1
        rw [h1]
        unfold cmM
        split
        · have := padM_le (b ++ [128]).length
          simp only [List.length_append, zs_len, List.length_cons, List.length_nil] at this ⊢
          omega
        · omega
      have hml := cmM_len b
      rw [← hM.1] at hml
      obtain ⟨kq, hkq⟩ : ∃ kq, n4 - 16 = kq := ⟨_, rfl⟩
      have hw16 : IntKind.i64.wrap ((n4 : Int) - 16) = (kq : Int) := by rw [IntWalk.i64_in _ (by omega)]; omega
      obtain ⟨A6, n6, c6, hn6, hS6, hR6, _⟩ := hM.cut_ex2 (k := kq) (by omega)
      have hn6' : n6 = 16 := by omega
      subst hn6'
      have hsl3 := slice_all3 A4 n4 c4 kq hM.spot (by have := hM.2.1; omega)
      have hfr := hM.front (k := kq) (by omega)
      obtain ⟨b4, o4, e4, _⟩ := hM.addr (by omega)
      rw [e4] at hfr
      have hfr := hfr.recap (c' := kq) (Nat.le_refl _) (by unfold maxLen; omega)
      rw [← e4] at hfr
      have hMl : (cmM b).length = kq + 16 := by rw [← hM.1]; omega
      have HN := Lib.hid (And.intro hM (And.intro hK (And.intro hO4 (And.intro hR6 (And.intro hfr (And.intro hMl (show kq % 16 = 0 by omega)))))))
      have hkqb : kq ≤ 99984 := by omega
      clear hM hK hO4 hR6 hfr hn6 hml hkq e4
      go_upto_region 12 with (first | (go_at_call 52; refine (rxorn_any A6 (some ⟨gk, 0, none⟩) 16 c6 16 16 _ _ wc HN.out.2.2.2.1 HN.out.2.1 (Nat.le_refl _) (by omega)).mono ?_; rintro e w5 ⟨rfl, hO5, hB5⟩; have H5 := Lib.hid (And.intro hO5.rd hB5); clear hO5 hB5) | (at_builtin; refine wp_app_grown (.tmp 50) (.tmp 51) A4 kq kq _ (HN.out.2.2.2.2.1.below H5.out.2) (some ⟨wc.heap.size, 0, none⟩) 16 16 _ H5.out.1 (by omega) (by have h1 := HN.out.2.2.2.2.1.1; have h2 := H5.out.1.1; omega) rfl rfl rfl rfl ?_; intro c7 w7 hc7 hO7 hB7; have H7 := Lib.hid (And.intro hO7 (Old.trans H5.out.2 hB7)); clear hO7 hB7))
      have hmk := Try.prog_make 16 (by omega) w7
      obtain ⟨wn, hwn⟩ : ∃ wn, w7.alloc (.cells (madeCells #[.int .u8 0] 16) 5) = wn := ⟨_, rfl⟩
      have hOn : Own wn w7.heap.size (.slice (some ⟨w7.heap.size, 0, none⟩) 16 16) (zs 16) := by rw [← hwn]; exact Own.made w7 16 (by unfold maxLen; omega)
      have hBn : Old w7 wn := by rw [← hwn]; exact (Old.refl _).alloc _
      rw [hwn, show ((16 : Nat) : Int) = 16 from rfl] at hmk
      have H8 := Lib.hid (And.intro hOn.rd hBn)
      clear hOn hBn hwn
      go_upto_region 13 with (go_at_call 34; refine (rcbc_any c true E D _ _ 16 (kq + 16) c7 (zs 16) _ wn (H1.out.1.below ((HN.out.2.2.1.trans H7.out.2).trans H8.out.2)) H8.out.1 (H7.out.1.rd.below H8.out.2) (by omega)).mono ?_; rintro e w9 ⟨A9, n9, c9, rfl, hO9, hB9⟩; have H9 := Lib.hid (And.intro hO9 hB9); clear hO9 hB9)
      clear hmk
      obtain ⟨s1, s2⟩ := cmac_same E D H1.out.2.1 (cmM b) (cmK E b) kq HN.out.2.2.2.2.2.1 HN.out.2.2.2.2.2.2 HN.out.2.1.1.symm
      have hn9 : n9 = kq + 16 := by rw [H9.out.1.len]; exact s2
      have hw9 : IntKind.i64.wrap ((n9 : Int) - 16) = (kq : Int) := by rw [IntWalk.i64_in _ (by omega)]; omega
      obtain ⟨AA, nA, cA, hnA, hSA, hRA, _⟩ := H9.out.1.rd.cut_ex2 (k := kq) (by omega)
      have hnA' : nA = 16 := by omega
      subst hnA'
      have HZ := Lib.hid (And.intro hRA s1)
      clear hRA s1 s2 hn9 hnA
      go_wp2_with fail
      go_ret
      refine ⟨AA, cA, rfl, ?_, Old.trans (Old.trans (Old.trans (Old.trans H1.out.2.2.1 HN.out.2.2.1) H7.out.2) H8.out.2) H9.out.2⟩
      have h9 := HZ.out.1
      rw [HZ.out.2] at h9
      rw [← H1.out.2.2.2.2.2]
      exact h9
end Go.Proofs.Ytiocmebcbhbcmaa
namespace Go.Proofs.Ytiocmebcbhbcmaa
set_option maxRecDepth 100000
open Go.RowKit

def macF (k b : List UInt8) : List UInt8 := if keyOk k then cmacF (encL (rks k) ((rks k).length / 16)) b else []
theorem cmac_res (A C : Option Addr) (mk ck n cb : Nat) (k b : List UInt8) (w : World) (hk : Rd w A mk ck k) (hb : Rd w C n cb b) (hn : n ≤ 90000) :
    Calls Try.prog 22 #[.slice A mk ck, .slice C n cb] w fun e w' => ∃ A' n' c', e = .returned (.slice A' n' c') ∧ Rd w' A' n' c' (macF k b) ∧ Old w w' := by
  unfold macF
  by_cases h : keyOk k
  · rw [if_pos h]
    refine (cmac_any A C mk ck n cb k b w hk hb h hn).mono ?_
    rintro e w' ⟨g, rfl, h1, h2⟩
    exact ⟨_, _, _, rfl, h1, h2⟩
  · rw [if_neg h]
    have hl := hk.1
    refine (cmac_no A C mk ck n cb w (by unfold keyOk at h; omega)).mono ?_
    rintro e w' ⟨rfl, rfl⟩
    exact ⟨_, _, _, rfl, Rd.nil _, Old.refl _⟩
theorem rcmac_res (A C : Option Addr) (mk ck n cb : Nat) (k b : List UInt8) (w : World) (hk : Rd w A mk ck k) (hb : Rd w C n cb b) (hn : n ≤ 90000) :
    Calls Try.prog 23 #[.slice A mk ck, .slice C n cb] w fun e w' => ∃ A' n' c', e = .returned (.slice A' n' c') ∧ Rd w' A' n' c' (macF k b) ∧ Old w w' := by
  unfold macF
  by_cases h : keyOk k
  · rw [if_pos h]
    refine (rcmac_any A C mk ck n cb k b w hk hb h hn).mono ?_
    rintro e w' ⟨A', c', rfl, h1, h2⟩
    exact ⟨_, _, _, rfl, h1, h2⟩
  · rw [if_neg h]
    have hl := hk.1
    refine (rcmac_no A C mk ck n cb w (by unfold keyOk at h; omega)).mono ?_
    rintro e w' ⟨rfl, rfl⟩
    exact ⟨_, _, _, rfl, Rd.nil _, Old.refl _⟩
set_option maxHeartbeats 2000000 in
theorem modesCMAC_any (A C : Option Addr) (ma ca mb cb : Nat) (k b : List UInt8) (w : World) (hk : Rd w A ma ca k) (hb : Rd w C mb cb b) :
    Calls Try.prog 7 #[.slice A ma ca, .slice C mb cb] w (LawRes w) := by
  have hbeg := mbegun_any w
  have hk2 := hk.short (n := 40)
  have hb2 := hb.short (n := 100)
  have HH := Lib.hid (And.intro hbeg (And.intro hk2 (And.intro hb2 (And.intro hk hb))))
  obtain ⟨m1, hm1⟩ : ∃ m, min ma 40 = m := ⟨_, rfl⟩
  obtain ⟨m2, hm2⟩ : ∃ m, min mb 100 = m := ⟨_, rfl⟩
  obtain ⟨k1, hk1⟩ : ∃ k1, k.take 40 = k1 := ⟨_, rfl⟩
  obtain ⟨b1, hb1⟩ : ∃ b1, b.take 100 = b1 := ⟨_, rfl⟩
  rw [hm1, hk1] at hk2
  rw [hm2, hb1] at hb2
  have hm2b : m2 ≤ 100 := by omega
  have HM := Lib.hid (And.intro hm1 hm2)
  have HK := Lib.hid (And.intro hk2 hb2)
  clear hbeg hk hb hk2 hb2 hm1 hm2 hk1 hb1
  go_enter Try.func7, Try.ntmps7
  go_wp2_with fail
  refine HH.out.1.mono ?_
  rintro e w1 ⟨rfl, hO1⟩
  have H1 := Lib.hid hO1
  clear hO1
  go_wp2_with fail
  refine (short_any A ma ca 40 k w1 (HH.out.2.2.2.1.below H1.out) (by omega)).mono ?_
  rintro e w2 ⟨rfl, rfl⟩
  go_wp2_with fail
  refine (short_any C mb cb 100 b w1 (HH.out.2.2.2.2.below H1.out) (by omega)).mono ?_
  rintro e w3 ⟨rfl, rfl⟩
  rw [HM.out.1, HM.out.2]
  go_upto_region 3 with fail
  refine region_old (by kernel_rfl) (fun wd hHeld hSz => ?_)
  have HSz := Lib.hid hSz
  clear hSz
  have hOd := hHeld
  refine takeL (i := 0) (v := ?_) rfl (by kernel_rfl) (by kernel_rfl) (by kernel_rfl) (fun _ _ _ h => h) (Or.inl ⟨by rfl, ?_⟩) hHeld ?_
  rotate_left
  focus (intro wq hSw; clear hSw; go_simp; try with_reducible rfl)
  try simp only [Act.put, List.setIfInBounds_toArray, List.set_cons_zero, List.set_cons_succ]
  refine takeL (i := 1) (v := ?_) rfl (by kernel_rfl) (by kernel_rfl) (by kernel_rfl) (fun _ _ _ h => h) (Or.inl ⟨by rfl, ?_⟩) hHeld ?_
  rotate_left
  focus (intro wq hSw; clear hSw; go_simp; try with_reducible rfl)
  try simp only [Act.put, List.setIfInBounds_toArray, List.set_cons_zero, List.set_cons_succ]
  refine takeL (i := 2) (v := ?_) rfl (by kernel_rfl) (by kernel_rfl) (by kernel_rfl) (fun _ _ _ h => h) (Or.inl ⟨by rfl, ?_⟩) hHeld ?_
  rotate_left
  focus (intro wq hSw; clear hSw; go_simp; try with_reducible rfl)
  try simp only [Act.put, List.setIfInBounds_toArray, List.set_cons_zero, List.set_cons_succ]
  refine takeL (i := 3) (v := ?_) rfl (by kernel_rfl) (by kernel_rfl) (by kernel_rfl) (fun _ _ _ h => h) (Or.inl ⟨by rfl, ?_⟩) hHeld ?_
  rotate_left
  focus (intro wq hSw; clear hSw; go_simp; try with_reducible rfl)
  try simp only [Act.put, List.setIfInBounds_toArray, List.set_cons_zero, List.set_cons_succ]
  refine takeL (i := 6) (v := ?_) rfl (by kernel_rfl) (by kernel_rfl) (by kernel_rfl) (fun _ _ _ h => h) (Or.inl ⟨by rfl, ?_⟩) hHeld ?_
  rotate_left
  focus (intro wq hSw; clear hSw; go_simp; try with_reducible rfl)
  try simp only [Act.put, List.setIfInBounds_toArray, List.set_cons_zero, List.set_cons_succ]
  refine takeL (i := 7) (v := ?_) rfl (by kernel_rfl) (by kernel_rfl) (by kernel_rfl) (fun _ _ _ h => h) (Or.inl ⟨by rfl, ?_⟩) hHeld ?_
  rotate_left
  focus (intro wq hSw; clear hSw; go_simp; try with_reducible rfl)
  try simp only [Act.put, List.setIfInBounds_toArray, List.set_cons_zero, List.set_cons_succ]
  refine wpAnyH_ready (rs := [4]) (by kernel_rfl) (by simp) ?_
  refine consL rfl (fun K hK => ?_) AllReadyH.nil
  go_simp
  refine (cmac_res A C m1 ca m2 cb k1 b1 wd ((HK.out.1.below H1.out).below hOd) ((HK.out.2.below H1.out).below hOd) (by omega)).mono ?_
  rintro e w4 ⟨A4, n4, c4, rfl, hR4, hO4⟩
  refine hK.out _ _ (hHeld.trans hO4) (fun hHeld => ?_)
  clear hK K
  try simp only [Act.put, List.setIfInBounds_toArray, List.set_cons_zero, List.set_cons_succ]
  refine wpAnyH_old (w1 := w4) (hOd.trans hO4) (fun hHeld => ?_) (Old.refl w4)
  refine takeL (i := 5) (v := ?_) rfl (by kernel_rfl) (by kernel_rfl) (by kernel_rfl) (fun _ _ _ h => h) (Or.inl ⟨by rfl, ?_⟩) hHeld ?_
  rotate_left
  focus (intro wq hSw; have hRun := hR4.str_below hSw; clear hSw; go_simp; try with_reducible rfl)
  try simp only [Act.put, List.setIfInBounds_toArray, List.set_cons_zero, List.set_cons_succ]
  refine wpAnyH_ready (rs := [8]) (by kernel_rfl) (by simp) ?_
  refine consL rfl (fun K hK => ?_) AllReadyH.nil
  go_simp
  refine (rcmac_res A C m1 ca m2 cb k1 b1 w4 (((HK.out.1.below H1.out).below hOd).below hO4) (((HK.out.2.below H1.out).below hOd).below hO4) (by omega)).mono ?_
  rintro e w8 ⟨A8, n8, c8, rfl, hR8, hO8⟩
  refine hK.out _ _ hO8 (fun hHeld => ?_)
  clear hK K
  try simp only [Act.put, List.setIfInBounds_toArray, List.set_cons_zero, List.set_cons_succ]
  refine wpAnyH_old (w1 := w8) hO8 (fun hHeld => ?_) (Old.refl w8)
  refine takeL (i := 9) (v := ?_) rfl (by kernel_rfl) (by kernel_rfl) (by kernel_rfl) (fun _ _ _ h => h) (Or.inl ⟨by rfl, ?_⟩) hHeld ?_
  rotate_left
  focus (intro wq hSw; have hRun := hR8.str_below hSw; clear hSw; go_simp; try with_reducible rfl)
  try simp only [Act.put, List.setIfInBounds_toArray, List.set_cons_zero, List.set_cons_succ]
  refine takeL (i := 10) (v := ?_) rfl (by kernel_rfl) (by kernel_rfl) (by kernel_rfl) (fun _ _ _ h => h) (Or.inl ⟨by rfl, ?_⟩) hHeld ?_
  rotate_left
  focus (intro wq hSw; clear hSw; go_simp; try with_reducible rfl)
  try simp only [Act.put, List.setIfInBounds_toArray, List.set_cons_zero, List.set_cons_succ]
  refine takeL (i := 11) (v := ?_) rfl (by kernel_rfl) (by kernel_rfl) (by kernel_rfl) (fun _ _ _ h => h) (Or.inl ⟨by rfl, ?_⟩) hHeld ?_
  rotate_left
  focus (intro wq hSw; clear hSw; go_simp; try with_reducible rfl)
  try simp only [Act.put, List.setIfInBounds_toArray, List.set_cons_zero, List.set_cons_succ]
  refine takeL (i := 12) (v := ?_) rfl (by kernel_rfl) (by kernel_rfl) (by kernel_rfl) (fun _ _ _ h => h) (Or.inl ⟨by rfl, ?_⟩) hHeld ?_
  rotate_left
  focus (intro wq hSw; clear hSw; go_simp; try with_reducible rfl)
  try simp only [Act.put, List.setIfInBounds_toArray, List.set_cons_zero, List.set_cons_succ]
  refine wpAnyH_done (by kernel_rfl) ?_ _
  refine NoPanic.normal ?_
  have HO := Lib.hid ((H1.out.trans (hOd.trans hO4)).trans hO8)
  clear hOd hHeld hO4 hO8 hR4 hR8
  try simp only [Exit.then]
  try go_at_K
  go_wp2_with fail
  go_ret
  exact ⟨rfl, HO.out⟩
end Go.Proofs.Ytiocmebcbhbcmaa
namespace Go.Proofs.Ytiocmebcbhbcmaa
set_option maxRecDepth 100000
open Go.RowKit
attribute [local go_sem] Oper.semAt_some

theorem seqNN (w : World) : (binOp .eql 45 .nilFunc .nilFunc).run Try.prog w = .ok (.bool true) w := by kernel_rfl
theorem seqFN (f : FuncId) (lb : Array Value) (w : World) : (binOp .eql 45 (.func (.func f) #[] lb) .nilFunc).run Try.prog w = .ok (.bool false) w := by kernel_rfl
theorem pieces_nil (S : Option Addr) (w : World) : Calls Try.prog 24 #[.pointer S, .nilFunc] w fun e w' =>
    e = .returned (.func (.func 53) #[] #[.pointer (some ⟨w.heap.size + 1, 0, none⟩), .pointer (some ⟨w.heap.size, 0, none⟩)]) ∧ (w.alloc (.cells #[.pointer S] 31)).alloc (.cells #[.nilFunc] 45) = w' := by
  go_enter Try.func24, Try.ntmps24
  go_wp2
  go_ret
  exact ⟨rfl, rfl⟩
theorem pieces_fn (S : Option Addr) (gf : FuncId) (lb : Array Value) (w : World) : Calls Try.prog 24 #[.pointer S, .func (.func gf) #[] lb] w fun e w' =>
    e = .returned (.func (.func 53) #[] #[.pointer (some ⟨w.heap.size + 1, 0, none⟩), .pointer (some ⟨w.heap.size, 0, none⟩)]) ∧ (w.alloc (.cells #[.pointer S] 31)).alloc (.cells #[.func (.func gf) #[] lb] 45) = w' := by
  go_enter Try.func24, Try.ntmps24
  go_wp2
  go_ret
  exact ⟨rfl, rfl⟩
/-- The iterator over no parts makes no round. -/
theorem pieces_none (bp bs : Nat) : Iter Try.prog 53 #[.pointer (some ⟨bp, 0, none⟩), .pointer (some ⟨bs, 0, none⟩)] (fun _ args _ => args.size = 1) (fun _ W => W.cell? ⟨bp, 0, none⟩ = some .nilFunc ∧ bp < W.heap.size) 0 [] := by
  intro l J Jx W hJ hJx hY h0 hM
  refine callsIn_wide.2 (calls_of_marks Try.func53 rfl ?_)
  simp only [Try.ntmps53, List.size_toArray, List.length_cons, List.length_nil, Nat.reduceAdd, Nat.reduceSub, Array.replicate_succ, Array.replicate_zero, List.push_toArray, List.append_toArray, List.nil_append, List.cons_append]
  have hc := (cell_turn hM.1 ((Turn.refl [] W).alloc (.cells #[.func (.yield l) #[] #[]] 60)) (by simp))
  have hJ1 := hJ 0 W _ h0 ((Turn.refl [] W).alloc (.cells #[.func (.yield l) #[] #[]] 60))
  have HJ := Lib.hid hJ1
  have hn := seqNN
  clear hJ hJx hY h0 hM hJ1
  go_wp2_with fail
  refine ret_bare rfl (results_none rfl _ _ _) ?_
  exact ⟨⟨_, rfl⟩, .inl HJ.out⟩
set_option maxHeartbeats 4000000 in
theorem modesNone_walk (w : World) : Calls Try.prog 9 #[] w fun e w' => e = .returned (.bool true) ∧ Old w w' := by
  refine calls_of_marks Try.func9 rfl ?_
  simp only [Try.ntmps9, List.size_toArray, List.length_cons, List.length_nil, Nat.reduceAdd, Nat.reduceSub, Array.replicate_succ, Array.replicate_zero, List.push_toArray, List.append_toArray, List.nil_append, List.cons_append]
  have hne := seqFN
  have kc := fun (w : World) (C : Array Value) (n c : Nat) => Lib.run_convert_bytes_const (P := Try.prog) w 22 5 C n c Try.underlying22 Try.underlying5
  go_wp2_with (first
    | (go_at_call 21; (with_reducible refine (final_nil _).mono ?_); rintro e w' ⟨rfl, rfl⟩)
    | (go_at_call 24; (with_reducible refine (pieces_nil none _).mono ?_); rintro e w5 ⟨rfl, rfl⟩))
  have hal : Old w (((w.alloc (.cells #[.pointer none] 31)).alloc (.cells #[.nilFunc] 45)).alloc (.cells #[.int .i64 0] 3)) := (((Old.refl w).alloc _).alloc _).alloc _
  have hk5 : Blk (((w.alloc (.cells #[.pointer none] 31)).alloc (.cells #[.nilFunc] 45)).alloc (.cells #[.int .i64 0] 3)) (w.heap.size + 1 + 1) 3 #[.int .i64 0] := by
    have := Blk.new ((w.alloc (.cells #[.pointer none] 31)).alloc (.cells #[.nilFunc] 45)) 3 #[.int .i64 0]
    simpa using this
  have hbx5 : (((w.alloc (.cells #[.pointer none] 31)).alloc (.cells #[.nilFunc] 45)).alloc (.cells #[.int .i64 0] 3)).cell? ⟨w.heap.size + 1, 0, none⟩ = some .nilFunc := by
    have hb := (Blk.new (w.alloc (.cells #[.pointer none] 31)) 45 #[.nilFunc]).below ((Old.refl _).alloc (.cells #[.int .i64 0] 3))
    have := hb.cell 0
    simpa using this
  have hz5 : (((w.alloc (.cells #[.pointer none] 31)).alloc (.cells #[.nilFunc] 45)).alloc (.cells #[.int .i64 0] 3)).heap.size = w.heap.size + 3 := by simp
  revert hal hk5 hbx5 hz5
  generalize (((w.alloc (.cells #[.pointer none] 31)).alloc (.cells #[.nilFunc] 45)).alloc (.cells #[.int .i64 0] 3)) = w5
  intro hal hk5 hbx5 hz5
  refine wp_range0 (gf := 53) (lb := #[.pointer (some ⟨w.heap.size + 1, 0, none⟩), .pointer (some ⟨w.heap.size, 0, none⟩)]) rfl (fun _ _ => by kernel_rfl) (pieces_none (w.heap.size + 1) w.heap.size)
    (fun k args W h => h) (by simp) (fun k W => Blk W (w.heap.size + 1 + 1) 3 #[.int .i64 0] ∧ Old w W) (fun _ _ _ => False) ?hI (fun _ _ _ _ _ h => h.elim) ?hM ?hA ⟨hk5, hal⟩ ⟨hbx5, by omega⟩ ?hM1 ?hbody ?hdone ?hstop
  case hI =>
    rintro k W1 W2 S ⟨h1, h2⟩ ht hS
    have hS' : ∀ t ∈ S, t = w.heap.size + 4 := by
      intro t h
      rcases hS t h with h | ⟨h, _⟩
      · simp at h
      · omega
    exact ⟨h1.turn ht (fun h => by have := hS' _ h; omega), below_turn h2 ht (fun t h => by have := hS' _ h; omega) h2.size⟩
  case hM =>
    rintro k W1 W2 ⟨h1, h1'⟩ _ ht
    rw [hz5] at ht
    exact ⟨cell_turn h1 ht (by simp), by have := ht.size; omega⟩
  case hA => intro k args W1 W2 h _ _; exact h
  case hM1 => intro W ht; exact ⟨cell_turn hbx5 ht (by simp), by have := ht.size; omega⟩
  case hbody => intro l k args W hk; omega
  case hdone =>
    rintro W hlt ⟨h1, h2⟩ hK
    rw [hz5] at hlt hK ⊢
    go_wp2_with fail
    with_reducible refine (mbegun_any W).mono ?_
    rintro e W2 ⟨rfl, hb2⟩
    have hc := ((h1.below hb2).below ((Old.refl W2).alloc (.cells #[.int .u8 97] 5 (1, 2)))).cell 0
    simp at hc
    have hK2 := (hb2.block _ (by omega)).trans hK
    have hB2 := Old.trans h2 hb2
    have hz2 := hb2.size
    have hlt2 : w.heap.size + 3 < W2.heap.size := by omega
    clear h1 hK h2 hb2 hk5 hal hbx5
    go_wp2_with (first
      | (go_at_call 17; (with_reducible refine (update_nil _ _ _ _).mono ?_); rintro e w' ⟨rfl, rfl⟩)
      | (go_at_call 19; (with_reducible refine (holds_nil _).mono ?_); rintro e w' ⟨rfl, rfl⟩))
    refine ret_mark rfl (D := w.heap.size + 3) ((Below.heap_alloc W2 _ _ (by omega)).trans hK2) (fun W' => results_tmp rfl _ _ _) ⟨rfl, ?_⟩
    exact below_turn (hB2.alloc _) ((Turn.refl [w.heap.size + 3] _).putObj (.inl (by simp)) _) (by intro t h; simp at h; omega) (by simp; omega)
  case hstop => intro c k W _ _ h; exact h.elim
end Go.Proofs.Ytiocmebcbhbcmaa
