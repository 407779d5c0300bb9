/-
  Modes: CMAC.
-/
import Derived.Test.YtiocmebcbhbcmaaZzMr3
namespace Go.Proofs.Ytiocmebcbhbcmaa
set_option maxRecDepth 100000
open Go.RowKit

def cmG (E : List UInt8 → List UInt8) : Nat → List UInt8 → List UInt8 → List UInt8
  | 0, out, m => xorL out m
  | f + 1, out, m => if m.length ≤ 16 then xorL out m else cmG E f (E (xorL out m)) (m.drop 16)
def cmOdd (b : List UInt8) : Prop := b.length = 0 ∨ 0 < b.length % 16
instance (b : List UInt8) : Decidable (cmOdd b) := by unfold cmOdd; infer_instance
def cmK (E : List UInt8 → List UInt8) (b : List UInt8) : List UInt8 := if cmOdd b then dblL (dblL (E (zs 16))) else dblL (E (zs 16))
def cmM (b : List UInt8) : List UInt8 := if cmOdd b then (b ++ [128]) ++ zs (padM (b ++ [128]).length) else b
def cmacF (E : List UInt8 → List UInt8) (b : List UInt8) : List UInt8 := E (xorL (cmG E (cmM b).length (zs 16) (cmM b)) (cmK E b))
theorem cmM_len (b : List UInt8) : 16 ≤ (cmM b).length ∧ (cmM b).length % 16 = 0 := by
  unfold cmM
  split
  · rw [List.length_append, zs_len]
    have : (b ++ [128]).length = b.length + 1 := by simp
    rw [this]
    unfold padM
    omega
  · rename_i h
    unfold cmOdd at h
    omega
theorem cmac_no (A C : Option Addr) (m c n cb : Nat) (w : World) (h : m ≠ 16 ∧ m ≠ 24 ∧ m ≠ 32) :
    Calls Try.prog 22 #[.slice A m c, .slice C n cb] w fun e w' => e = .returned (.slice none 0 0) ∧ w' = w := by
  have hc := new_no A m c w h
  clear h
  go_enter Try.func22, Try.ntmps22
  go_wp2_with fail
  refine hc.mono ?_
  rintro e w1 ⟨rfl, hw⟩
  subst hw
  go_wp2_with fail
  go_ret
  exact ⟨rfl, rfl⟩
set_option maxHeartbeats 4000000 in
theorem cmac_any (A C : Option Addr) (mk ck n cb : Nat) (k b : List UInt8) (w : World) (hk : Rd w A mk ck k) (hb : Rd w C n cb b) (hko : keyOk k) (hn : n ≤ 90000) :
    Calls Try.prog 22 #[.slice A mk ck, .slice C n cb] w fun e w' => ∃ g, e = .returned (.slice (some ⟨g, 0, none⟩) 16 16) ∧ Rd w' (some ⟨g, 0, none⟩) 16 16 (cmacF (encL (rks k) ((rks k).length / 16)) b) ∧ Old w w' := by
  have hcall := new_any A mk ck k w hk hko
  obtain ⟨TG, hTG⟩ : ∃ T, cmacF (encL (rks k) ((rks k).length / 16)) b = T := ⟨_, rfl⟩
  rw [hTG]
  have HH := Lib.hid (And.intro hcall (And.intro hb (And.intro hb.1 hTG)))
  clear hcall hk hb hTG
  go_enter Try.func22, Try.ntmps22
  go_wp2_with fail
  refine HH.out.1.mono ?_
  rintro e w1 ⟨c, kb, R, cq, rfl, hC, hB⟩
  have hR : (rks k).length / 16 = R := by have : (rks k).length = 16 * R := hC.2.2.2.2.2.1; omega
  have hTG := HH.out.2.2.2
  rw [hR] at hTG
  have hC0 : Cip w1 0 c (rks k) kb R cq := ⟨hC.1, Nat.zero_le _, Nat.zero_le _, hC.2.2.2⟩
  have hEl : ∀ l : List UInt8, l.length = 16 → (encL (rks k) R l).length = 16 := fun l hl => enc_ne _ R l hl hC.2.2.2.2.2.1
  obtain ⟨E, hE⟩ : ∃ E, encL (rks k) R = E := ⟨_, rfl⟩
  have henc : ∀ (W : World) (A' : Option Addr) (ca : Nat) (l : List UInt8), Old w1 W → Rd W A' 16 ca l → Calls Try.prog 47 #[.pointer (some ⟨c, 0, none⟩), .slice A' 16 ca] W fun e w' => ∃ sb : Nat, e = .returned (.slice (some ⟨sb, 0, none⟩) 16 16) ∧ Rd w' (some ⟨sb, 0, none⟩) 16 16 (E l) ∧ Old W w' := fun W A' ca l hO hr => by
    refine (enc_any 0 c (rks k) kb R cq A' ca l W (hC0.below hO) hr).mono ?_
    rintro e w' ⟨sb, rfl, _, hS, hb⟩
    exact ⟨sb, rfl, by rw [← hE]; exact hS.rd, hb⟩
  rw [hE] at hEl hTG
  have hmk := Try.prog_make 16 (by omega) w1
  obtain ⟨wm, hwm⟩ : ∃ wm, w1.alloc (.cells (madeCells #[.int .u8 0] 16) 5) = wm := ⟨_, rfl⟩
  have hOm : Own wm w1.heap.size (.slice (some ⟨w1.heap.size, 0, none⟩) 16 16) (zs 16) := by rw [← hwm]; exact Own.made w1 16 (by unfold maxLen; omega)
  have hBm : Old w1 wm := by rw [← hwm]; exact (Old.refl _).alloc _
  rw [hwm, show ((16 : Nat) : Int) = 16 from rfl] at hmk
  have H1 := Lib.hid (And.intro henc (And.intro hEl (And.intro hB (And.intro hOm (And.intro hBm hTG)))))
  clear hC hC0 henc hEl hE hR hB hko hOm hBm hTG hwm
  go_upto_region 5 with (first | (go_at_call 47; refine (H1.out.1 wm _ _ _ H1.out.2.2.2.2.1 H1.out.2.2.2.1.rd).mono ?_; rintro e we ⟨ge, rfl, hRe, hBe⟩; have HE := Lib.hid (And.intro hRe hBe); clear hRe hBe) | (go_at_call 46; refine (double_any _ _ _ we HE.out.1).mono ?_; rintro e wk ⟨rfl, hOk, hBk⟩; have HK := Lib.hid (And.intro hOk.rd ((H1.out.2.2.2.2.1.trans HE.out.2).trans hBk)); clear hOk hBk))
  clear hmk
  go_wp2_with fail
  refine (clone_own C n cb b wk ((HH.out.2.1.below H1.out.2.2.1).below HK.out.2) (by omega)).mono ?_
  rintro e w3 ⟨A3, n3, c3, rfl, ho3, hB3⟩
  have B3 := Lib.hid hB3.size
  have hn3 : n3 = b.length := ho3.len
  have hn3b : n3 ≤ 90000 := by have := HH.out.2.2.1; omega
  have H3 := Lib.hid (And.intro ho3 (And.intro (HK.out.2.trans hB3) (And.intro (HK.out.1.below hB3) hn3)))
  clear ho3 hB3 hn3
  go_upto_region 6 with fail
  go_cut [26] (fun v wx => v = .bool (decide (cmOdd b)) ∧ w3 = wx)
  case first =>
    have hn3 := H3.out.2.2.2
    by_cases h0 : n3 = 0
    · have hd : decide (cmOdd b) = true := decide_eq_true (.inl (by omega))
      have HD := Lib.hid hd
      subst h0
      clear hn3 hd
      go_wp2_with fail
      go_meet
      case rel => exact ⟨by rw [HD.out], rfl⟩
    · have hb0 : ((n3 : Int) == 0) = false := by simp; omega
      have hi0 : ¬ (n3 : Int) = 0 := by omega
      by_cases h16 : 0 < n3 % 16
      · have hd : decide (cmOdd b) = true := decide_eq_true (.inr (by omega))
        have hg : (n3 : Int) % 16 > 0 := by omega
        have hgd : decide ((n3 : Int) % 16 > 0) = true := decide_eq_true hg
        have HD := Lib.hid hd
        clear hn3 hd h0 h16
        go_wp2_with fail
        go_meet
        case rel => exact ⟨by rw [HD.out], rfl⟩
      · have hd : decide (cmOdd b) = false := decide_eq_false (fun h => by unfold cmOdd at h; omega)
        have hg : ¬ (n3 : Int) % 16 > 0 := by omega
        have hgd : decide ((n3 : Int) % 16 > 0) = false := decide_eq_false hg
        have HD := Lib.hid hd
        clear hn3 hd h0 h16
        go_wp2_with fail
        go_meet
        case rel => exact ⟨by rw [HD.out], rfl⟩
  case rest =>
    obtain ⟨rfl, rfl⟩ := hcut
    obtain ⟨od, hod⟩ : ∃ od, decide (cmOdd b) = od := ⟨_, rfl⟩
    rw [hod]
    have HOd := Lib.hid hod
    clear hod
    go_upto_if 26 with fail
    go_cut [1, 6] from 7 to 52 (fun vb vk wx => ∃ (A4 : Option Addr) (n4 c4 : Nat) (gk : Nat), vb = .slice A4 n4 c4 ∧ vk = .slice (some ⟨gk, 0, none⟩) 16 16 ∧ Rd wx A4 n4 c4 (cmM b) ∧ Rd wx (some ⟨gk, 0, none⟩) 16 16 (cmK E b) ∧ Old w1 wx)
    case first =>
      cases od with
      | true =>
        have hodd : cmOdd b := of_decide_eq_true HOd.out
        have hM : cmM b = (b ++ [128]) ++ zs (padM (b ++ [128]).length) := by unfold cmM; rw [if_pos hodd]
        have hK : cmK E b = dblL (dblL (E (zs 16))) := by unfold cmK; rw [if_pos hodd]
        have HM := Lib.hid (And.intro hM hK)
        clear hodd hM hK
        go_wp2_with (first | (go_at_call 46; refine (double_any _ _ _ _ H3.out.2.2.1).mono ?_; rintro e w5 ⟨rfl, hO5, hB5⟩; have H5 := Lib.hid (And.intro hO5.rd hB5); clear hO5 hB5) | (at_builtin; refine wp_app_lit (.tmp 29) (.tmp 30) wk.heap.size (.slice A3 n3 c3) b (H3.out.1.below H5.out.2) (Nat.le_trans B3.out H5.out.2.size) [128] (by have := H3.out.2.2.2; omega) (by simp) rfl rfl rfl rfl rfl rfl ?_; intro A6 n6 c6 w6 hn6 hG; have H6 := Lib.hid hG; clear hG) | (go_at_call 48; refine (filled_any A6 n6 c6 _ w6 H6.out.own.rd (by simp; have := H3.out.2.2.2; omega)).mono ?_; rintro e w7 ⟨A7, n7, c7, rfl, ho7, hB7⟩; have H7 := Lib.hid (And.intro ho7 hB7); clear ho7 hB7))
        go_meet
        case rel =>
          have hk6 : Rd w6 (some ⟨w3.heap.size, 0, none⟩) 16 16 (dblL (dblL (E (zs 16)))) := ((H5.out.1.below ((Old.refl _).alloc _)).turn (Turn.of_grown H6.out.grown) (fun ad e hm => by
            cases e
            have := (H3.out.1.lt (by simpa using hm)).2
            omega))
          have hw1k : w1.heap.size ≤ wk.heap.size := HK.out.2.size
          exact ⟨A7, n7, c7, _, rfl, rfl, by rw [HM.out.1]; exact H7.out.1.rd, by rw [HM.out.2]; exact hk6.below H7.out.2, (((H3.out.2.1.trans H5.out.2).alloc _).trans_below (H6.out.below.mono hw1k)).trans H7.out.2⟩
      | false =>
        have hodd : ¬ cmOdd b := of_decide_eq_false HOd.out
        have hM : cmM b = b := by unfold cmM; rw [if_neg hodd]
        have hK : cmK E b = dblL (E (zs 16)) := by unfold cmK; rw [if_neg hodd]
        have HM := Lib.hid (And.intro hM hK)
        clear hodd hM hK
        go_wp2_with fail
        go_meet
        case rel => exact ⟨A3, n3, c3, _, rfl, rfl, by rw [HM.out.1]; exact H3.out.1.rd, by rw [HM.out.2]; exact H3.out.2.2.1, H3.out.2.1⟩
    case rest =>
      obtain ⟨A4, n4, c4, gk, rfl, rfl, hM, hK, hO4⟩ := hcut
      have hmk := Try.prog_make 16 (by omega) wc
      obtain ⟨wn, hwn⟩ : ∃ wn, wc.alloc (.cells (madeCells #[.int .u8 0] 16) 5) = wn := ⟨_, rfl⟩
      have hOn : Own wn wc.heap.size (.slice (some ⟨wc.heap.size, 0, none⟩) 16 16) (zs 16) := by rw [← hwn]; exact Own.made wc 16 (by unfold maxLen; omega)
      have hBn : Old wc wn := by rw [← hwn]; exact (Old.refl _).alloc _
      rw [hwn, show ((16 : Nat) : Int) = 16 from rfl] at hmk
      have HN := Lib.hid (And.intro (hM.below hBn) (And.intro (hK.below hBn) (And.intro (hO4.trans hBn) hOn)))
      have hn4 : n4 ≤ 100000 := by
        have h1 := hM.1
        have h2 := HH.out.2.2.1
        rw [h1]
        unfold cmM
        split
        · have := padM_le (b ++ [128]).length
          simp only [List.length_append, zs_len, List.length_cons, List.length_nil] at this ⊢
          omega
        · omega
      clear hM hK hO4 hwn hOn hBn
      go_wp2_with fail
      clear hmk
      go_loopw [1, 7] (fun vb vo wr => ∃ (A5 : Option Addr) (n5 c5 : Nat) (m : List UInt8) (sb : Nat) (out : List UInt8) (f : Nat), vb = .slice A5 n5 c5 ∧ vo = .slice (some ⟨sb, 0, none⟩) 16 16 ∧ Rd wr A5 n5 c5 m ∧ Rd wr (some ⟨sb, 0, none⟩) 16 16 out ∧ Old wn wr ∧ 16 ≤ n5 ∧ n5 % 16 = 0 ∧ n5 ≤ 100000 ∧ m.length ≤ f ∧ cmG E f out m = cmG E (cmM b).length (zs 16) (cmM b)) (fun vb _ _ => sliceLen vb)
      case atStart => exact ⟨A4, n4, c4, cmM b, _, zs 16, (cmM b).length, rfl, rfl, HN.out.1, HN.out.2.2.2.rd, Old.refl _, by have := HN.out.1.1; have := (cmM_len b).1; omega, by have := HN.out.1.1; have := (cmM_len b).2; omega, hn4, Nat.le_refl _, rfl⟩
      case round =>
        obtain ⟨A5, n5, c5, m, sb, out, f, rfl, rfl, hm, ho, hO, h16, hmod, h1e5, hf, hg⟩ := hrel
        have hml := hm.1
        by_cases hlt : 16 < n5
        · have hlti : (n5 : Int) > 16 := by omega
          have hltd : decide ((n5 : Int) > 16) = true := decide_eq_true hlti
          obtain ⟨A6, n6, c6, hn6, hS6, hR6, _⟩ := hm.cut_ex2 (k := 16) (by omega)
          rw [show ((16 : Nat) : Int) = 16 from rfl] at hS6
          obtain ⟨f', rfl⟩ : ∃ f', f = f' + 1 := ⟨f - 1, by omega⟩
          have hstep : cmG E (f' + 1) out m = cmG E f' (E (xorL out m)) (m.drop 16) := by show (if m.length ≤ 16 then _ else _) = _; rw [if_neg (by omega)]
          rw [hstep] at hg
          have HR := Lib.hid (And.intro hm (And.intro ho (And.intro hO (And.intro hR6 (And.intro hg (And.intro hf (And.intro hml (And.intro hmod (And.intro hn6 h16)))))))))
          clear hm ho hO hR6 hg hf hml hstep hmod hn6 h16
          go_wp2_with (first | (go_at_call 49; refine (xored_any _ A5 16 16 n5 c5 out m wr HR.out.2.1 HR.out.1 HR.out.2.2.2.2.2.2.2.2.2 (by omega)).mono ?_; rintro e w5 ⟨rfl, hO5, hB5⟩; have H5 := Lib.hid (And.intro hO5.rd hB5); clear hO5 hB5) | (go_at_call 47; refine (H1.out.1 w5 _ _ _ ((HN.out.2.2.1.trans HR.out.2.2.1).trans H5.out.2) H5.out.1).mono ?_; rintro e w6 ⟨g6, rfl, hR, hB6⟩; have H6 := Lib.hid (And.intro hR hB6); clear hR hB6))
          go_roundw
          case rel => exact ⟨A6, n6, c6, m.drop 16, g6, E (xorL out m), f', rfl, rfl, (HR.out.2.2.2.1.below H5.out.2).below H6.out.2, H6.out.1, (HR.out.2.2.1.trans H5.out.2).trans H6.out.2, by have := HR.out.2.2.2.2.2.2.2.2.1; have := HR.out.2.2.2.2.2.2.2.1; omega, by have := HR.out.2.2.2.2.2.2.2.2.1; have := HR.out.2.2.2.2.2.2.2.1; omega, by have := HR.out.2.2.2.2.2.2.2.2.1; omega, by have := HR.out.2.2.2.2.2.1; rw [List.length_drop]; omega, HR.out.2.2.2.2.1⟩
          case measure => have := HR.out.2.2.2.2.2.2.2.2.1; simp [sliceLen]; omega
        · have hlti : ¬ (n5 : Int) > 16 := by omega
          have hltd : decide ((n5 : Int) > 16) = false := decide_eq_false hlti
          have hc : cmG E f out m = xorL out m := by
            cases f with
            | zero => rfl
            | succ f => show (if m.length ≤ 16 then _ else _) = _; rw [if_pos (by omega)]
          have h5 : 16 ≤ n5 := h16
          have HR := Lib.hid (And.intro hm (And.intro ho (And.intro hO (hc.symm.trans hg))))
          clear hm ho hO hg hf hml hc hmod
          go_wp2_with (first | (go_at_call 47; refine (H1.out.1 w6 _ _ _ (((HN.out.2.2.1.trans HR.out.2.2.1).trans H5.out.2).trans H6.out.2) H6.out.1).mono ?_; rintro e w7 ⟨g7, rfl, hR, hB7⟩; have H7 := Lib.hid (And.intro hR hB7); clear hR hB7) | (go_at_call 49; first | (refine (xored_any (some ⟨wr.heap.size, 0, none⟩) (some ⟨gk, 0, none⟩) 16 16 16 16 _ _ w5 H5.out.1 ((HN.out.2.1.below HR.out.2.2.1).below H5.out.2) (Nat.le_refl _) (by omega)).mono ?_; rintro e w6 ⟨rfl, hO6, hB6⟩; have H6 := Lib.hid (And.intro hO6.rd hB6); clear hO6 hB6) | (refine (xored_any _ A5 16 16 n5 c5 out m wr HR.out.2.1 HR.out.1 h5 (by omega)).mono ?_; rintro e w5 ⟨rfl, hO5, hB5⟩; have H5 := Lib.hid (And.intro hO5.rd hB5); clear hO5 hB5)))
          go_ret
          refine ⟨g7, rfl, ?_, Old.trans (Old.trans (Old.trans (Old.trans (Old.trans H1.out.2.2.1 HN.out.2.2.1) HR.out.2.2.1) H5.out.2) H6.out.2) H7.out.2⟩
          have h9 := H7.out.1
          rw [HR.out.2.2.2] at h9
          rw [← H1.out.2.2.2.2.2]
          exact h9
end Go.Proofs.Ytiocmebcbhbcmaa
