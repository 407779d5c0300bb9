/-
  Modes, the document's answer: GCM.
-/
import Derived.Test.YtgjnmpjimhbfgaaGreatDoorZzMr6
import Derived.Test.YtgjnmpjimhbfgaaGreatDoorZzAesV
import Derived.Test.YtgjnmpjimhbfgaaGreatDoorLift
namespace Go.Proofs.YtgjnmpjimhbfgaaGreatDoor
set_option maxRecDepth 100000
open Go.RowKit
def gcmO (E : List UInt8 → List UInt8) (p b : List UInt8) : List UInt8 := (cnt1 E 32 b [] (stepL 32 (gcmJ E p))).1
def gcmT (E : List UInt8 → List UInt8) (p t : List UInt8) : List UInt8 := tagL E (p.drop (1 + (p.getD 0 0).toNat)) t (E (gcmJ E p))
def gcmX (E : List UInt8 → List UInt8) (enc : Bool) (p b : List UInt8) : List UInt8 := if enc then gcmO E p b else b
theorem pad_same (k : Nat) : padN_q k = padM k := rfl
theorem gcmJ_len (E : List UInt8 → List UInt8) (p : List UInt8) (h : gcmOk p) : (gcmJ E p).length = 16 := by
 obtain ⟨h1, h2, h3⟩ := h
 unfold gcmJ
 split
 ·rename_i h12
  rw [List.length_append, List.length_take, List.length_drop]
  simp
  omega
 ·unfold gh; simp [wr16, bytes64]
theorem zs8 : bytes64 (UInt64.ofNat (0 * 8)) = zs 8 := rfl
def GcmRes (w : World) (o t : List UInt8) (e : Ending) (w' : World) : Prop := ∃ A n c A2 c2, e = .returned (.tuple #[.slice A n c, .slice A2 16 c2]) ∧ Own w' w.heap.size (.slice A n c) o ∧ Rd w' A2 16 c2 t ∧ (∀ ad, A2 = some ad → (Value.slice A n c).ownBlock ≠ some ad.block) ∧ Old w w'
set_option maxHeartbeats 4000000 in
theorem rgcm_any (c : Nat) (enc : Bool) (E D : List UInt8 → List UInt8) (P C : Option Addr) (mp cp n cb : Nat) (p b : List UInt8) (w : World) (hE : REn w c E D) (hEl : ∀ l, l.length = 16 → (E l).length = 16) (hp : Rd w P mp cp p) (hpo : gcmOk p) (hmp : mp ≤ 40000) (hb : Rd w C n cb b) (hn : n ≤ 40000) :
  Calls Tryz.prog 52 #[.pointer (some ⟨c, 0, none⟩), .bool enc, .slice P mp cp, .slice C n cb] w (GcmRes w (gcmO E p b) (gcmT E p (gcmX E enc p b))) := by
 obtain ⟨TO, hTO⟩ : ∃ T, gcmO E p b = T := ⟨_, rfl⟩
 obtain ⟨TX, hTX⟩ : ∃ T, gcmX E enc p b = T := ⟨_, rfl⟩
 obtain ⟨TT, hTT⟩ : ∃ T, gcmT E p TX = T := ⟨_, rfl⟩
 obtain ⟨J, hJ⟩ : ∃ T, gcmJ E p = T := ⟨_, rfl⟩
 have hJl := gcmJ_len E p hpo
 rw [hJ] at hJl
 rw [hTX, hTO, hTT]
 have hmpl := hp.1
 have hmc := hp.2.1
 have hpo2 := hpo
 obtain ⟨q1, q2, q3⟩ := hpo
 obtain ⟨bp, op, z, hPe, hz, hcell⟩ := par0 hp (by omega)
 subst hPe
 obtain ⟨nv, hnv⟩ : ∃ nv, z.toNat = nv := ⟨_, rfl⟩
 rw [hz, hnv] at q2 q3
 have hcv := conv_Bi z
 rw [hnv] at hcv
 have hnv256 : nv < 256 := by rw [← hnv]; exact z.toNat_lt
 obtain ⟨n1, hn1⟩ : ∃ n1, 1 + nv = n1 := ⟨_, rfl⟩
 have hn1i : 1 + (nv : Int) = (n1 : Int) := by omega
 have hn1w : IntKind.i64.wrap (n1 : Int) = (n1 : Int) := IntWalk.i64_in _ (by omega)
 have hsI := slice_both (some ⟨bp, op, none⟩) mp cp 1 n1 (by omega) (by omega)
 rw [if_neg (by omega), show n1 - 1 = nv by omega, show ((1 : Nat) : Int) = 1 from rfl] at hsI
 simp only [Option.map_some, Addr.add_mid] at hsI
 have hrI := hp.cut (k := 1) (by omega)
 rw [if_neg (by omega)] at hrI
 simp only [Option.map_some, Addr.add_mid] at hrI
 have hrI := hrI.front (k := nv) (by omega)
 obtain ⟨AD, nd, cD, hnd, hS6, hR6, _⟩ := hp.cut_ex2 (k := n1) (by omega)
 obtain ⟨dd, hdd⟩ : ∃ d, p.drop n1 = d := ⟨_, rfl⟩
 obtain ⟨iv, hiv⟩ : ∃ d, (p.drop 1).take nv = d := ⟨_, rfl⟩
 rw [hdd] at hR6
 rw [hiv] at hrI
 have hivl : iv.length = nv := hrI.1.symm
 have hTT2 : TT = xorL (rgh (E (zs 16)) (fillL dd ++ fillL TX ++ bytes64 (UInt64.ofNat (dd.length * 8)) ++ bytes64 (UInt64.ofNat (TX.length * 8)))) (E J) := by
  rw [← hTT]
  unfold gcmT tagL
  rw [gh_same _ _ (hEl _ (zs_len 16)), hJ, hz, hnv, hn1, hdd]
  unfold lenL fillL
  rw [pad_same, pad_same, List.append_assoc (dd ++ zs (padM dd.length) ++ (TX ++ zs (padM TX.length)))]
 have hJ12 : nv = 12 → J = iv ++ [0, 0, 0, 1] := fun h => by
  rw [← hJ]; unfold gcmJ
  rw [hz, hnv, if_pos h, ← hiv, h]
 have hJn : nv ≠ 12 → J = rgh (E (zs 16)) (fillL iv ++ zs 8 ++ bytes64 (UInt64.ofNat (nv * 8))) := fun h => by
  rw [← hJ]; unfold gcmJ
  rw [hz, hnv, if_neg h, gh_same _ _ (hEl _ (zs_len 16)), hiv]
  unfold lenL fillL
  rw [pad_same, hivl, zs8, List.append_assoc, List.append_assoc, List.append_assoc]
 have hTO2 : (cnt1 E 32 b [] (stepL 32 J)).1 = TO := by rw [← hTO]; unfold gcmO; rw [hJ]
 have hTX2 : TX = if enc then TO else b := by rw [← hTX]; unfold gcmX; rw [hTO]
 have HH := Lib.hid (And.intro hE (And.intro hEl (And.intro hrI (And.intro hR6 (And.intro hb (And.intro hTT2 (And.intro hJ12 (And.intro hJn (And.intro hTO2 (And.intro hTX2 (And.intro hJl hnd)))))))))))
 have hmk := Tryz.prog_make 16 (by omega) w
 obtain ⟨wm, hwm⟩ : ∃ wm, w.alloc (.cells (madeCells #[.int .u8 0] 16) 5) = wm := ⟨_, rfl⟩
 have hOm : Own wm w.heap.size (.slice (some ⟨w.heap.size, 0, none⟩) 16 16) (zs 16) := by rw [← hwm]; exact Own.made w 16 (by unfold maxLen; omega)
 have hBm : Old w wm := by rw [← hwm]; exact (Old.refl _).alloc _
 rw [hwm, show ((16 : Nat) : Int) = 16 from rfl] at hmk
 have HM := Lib.hid (And.intro hOm.rd hBm)
 have hivb : nv ≤ 255 := by omega
 have hndb : nd ≤ 40000 := by omega
 have hx0 := hcell
 have hmp0 : 0 < mp := by omega
 have hmp0i : (0 : Int) < (mp : Int) := by omega
 obtain ⟨e1, he1⟩ : ∃ e, nv * 8 = e := ⟨_, rfl⟩
 have he1i : 8 * (nv : Int) = (e1 : Int) := by omega
 have he1w : IntKind.i64.wrap (e1 : Int) = (e1 : Int) := IntWalk.i64_in _ (by omega)
 obtain ⟨e2, he2⟩ : ∃ e, nd * 8 = e := ⟨_, rfl⟩
 have he2i : 8 * (nd : Int) = (e2 : Int) := by omega
 have he2w : IntKind.i64.wrap (e2 : Int) = (e2 : Int) := IntWalk.i64_in _ (by omega)
 have HE8 := Lib.hid (And.intro he1 he2)
 clear he1 he2
 have HQ := Lib.hid hivl
 clear hE hEl hrI hR6 hb hTT hTT2 hJ12 hJn hTO hTO2 hTX hTX2 hJ hJl hnd hpo2 hz hnv hn1 hiv hdd hp hOm hBm hwm hcell q2 q3 q1 hmc hmpl hivl
 go_enter Tryz.func52, Tryz.ntmps52
 go_upto_region 5 with (go_at_call 48; refine (HH.out.1.1 wm _ _ _ HM.out.2 HM.out.1).mono ?_; rintro e w4 ⟨gH, rfl, hRe, hBe, _⟩; have H4 := Lib.hid (And.intro hRe (Old.trans HM.out.2 hBe)); clear hRe hBe)
 clear hmk
 go_upto_region 6 with (first | (at_builtin; refine wp_app2 (.const (.slice none 0 0)) (.tmp 38) w4.heap.size (.slice none 0 0) [] (Own.nil _ _) (Nat.le_refl _) (some ⟨bp, op + 1, none⟩) nv (cp - 1) iv (HH.out.2.2.1.below H4.out.2) (by simp only [List.length_nil]; have := HQ.out; omega) rfl rfl rfl rfl ?_; intro A5 n5 c5 w5 hn5 hG5; have H5 := Lib.hid hG5; clear hG5) | (at_builtin; refine wp_app_lit (.tmp 39) (.tmp 40) w4.heap.size (.slice A5 n5 c5) iv H5.out.own H5.out.below.size [0, 0, 0, 1] (by have := HQ.out; omega) (by simp) rfl rfl rfl rfl rfl rfl ?_; intro A6 n6 c6 w6 hn6 hG6; have H6 := Lib.hid hG6; clear hG6))
 have hB6 : Old w4 w6 := Below.trans (Below.trans H5.out.below ((Below.refl _ _).alloc H5.out.below.size _)) H6.out.below
 have hn6e : n6 = nv + 4 := by have := H6.out.len; rw [List.length_append, HQ.out] at this; exact this
 have HB := Lib.hid (And.intro hB6 (And.intro (Old.trans H4.out.2 hB6) (And.intro (H4.out.1.below hB6) (And.intro H6.out.own.rd hn6e))))
 clear hB6 H5 H6 hn5 hn6 hn6e
 go_upto_if 43 with fail
 go_cut [14] from 15 to 93 (fun v wx => ∃ (Aj : Option Addr) (cj : Nat), v = .slice Aj 16 cj ∧ Rd wx Aj 16 cj J ∧ Old w6 wx)
 case first =>
  by_cases h12 : nv = 12
  ·have hi12 : (nv : Int) = 12 := by omega
   have hb12 : ((nv : Int) != 12) = false := by simpa using hi12
   have hn6e : n6 = 16 := by have := HB.out.2.2.2.2; omega
   subst hn6e
   have hj := HH.out.2.2.2.2.2.2.1 h12
   have hrj := HB.out.2.2.2.1
   rw [← hj] at hrj
   have HJ := Lib.hid hrj
   clear h12 hi12 hj hrj
   go_wp2_with fail
   go_meet
   case rel => exact ⟨A6, c6, rfl, HJ.out, Old.refl _⟩
  ·have hi12 : ¬ (nv : Int) = 12 := by omega
   have hb12 : ((nv : Int) != 12) = true := by simpa using hi12
   have hj := HH.out.2.2.2.2.2.2.2.1 h12
   have HJ := Lib.hid hj
   clear h12 hi12 hj
   go_wp2_with (first | (go_at_call 81; refine (fill_any (some ⟨bp, op + 1, none⟩) nv (cp - 1) iv w6 (HH.out.2.2.1.below HB.out.2.1) (by have := HQ.out; omega)).mono ?_; rintro e w7 ⟨A7, n7, c7, rfl, hO7, hB7⟩; have H7 := Lib.hid (And.intro hO7 hB7); clear hO7 hB7) | (at_builtin; refine wp_appZ (.tmp 46) (.const (.int .i64 8)) w6.heap.size (.slice A7 n7 c7) _ H7.out.1 H7.out.2.size 8 (by omega) (by unfold fillL padN_q; rw [List.length_append, zs_len]; have := HQ.out; omega) rfl rfl rfl rfl ?_; intro A8 n8 c8 w8 hn8 hG8; have H8 := Lib.hid hG8; clear hG8) | (go_at_call 82; refine (eight_any e1 w8 (by omega)).mono ?_; rintro e w9 ⟨rfl, hO9, hB9⟩; have H9 := Lib.hid (And.intro hO9.rd (And.intro hB9 (Nat.le_trans H7.out.2.size H8.out.below.size))); clear hO9 hB9) | (at_builtin; refine wp_app2 (.tmp 52) (.tmp 53) w6.heap.size (.slice A8 n8 c8) _ (H8.out.own.below H9.out.2.1) (Nat.le_trans H9.out.2.2 H9.out.2.1.size) (some ⟨w8.heap.size, 0, none⟩) 8 8 _ H9.out.1 (by unfold fillL padN_q; rw [List.length_append, List.length_append, zs_len, zs_len, bytes64_len]; have := HQ.out; omega) rfl rfl rfl rfl ?_; intro A10 n10 c10 w10 hn10 hG10; have H10 := Lib.hid (And.intro hG10 (Below.trans (Below.trans (Below.trans H7.out.2 H8.out.below) (H9.out.2.1.mono H9.out.2.2)) hG10.below)); clear hG10) | (go_at_call 83; refine (rgh_any (some ⟨gH, 0, none⟩) A10 16 n10 c10 _ _ w10 (HB.out.2.2.1.below H10.out.2) H10.out.1.own.rd (by unfold fillL padN_q; rw [List.length_append, List.length_append, List.length_append, zs_len, zs_len, bytes64_len]; have := HQ.out; omega)).mono ?_; rintro e w11 ⟨gj, cj, rfl, hOj, hBj⟩; have H11 := Lib.hid (And.intro hOj.rd (Old.trans H10.out.2 hBj)); clear hOj hBj))
   go_meet
   case rel => exact ⟨_, cj, rfl, by rw [HJ.out, HE8.out.1]; exact H11.out.1, H11.out.2⟩
 case rest =>
  obtain ⟨Aj, cj, rfl, hRj, hB66⟩ := hcut
  have HC := Lib.hid (And.intro hRj (And.intro (Old.trans HB.out.2.1 hB66) (HB.out.2.2.1.below hB66)))
  clear hRj hB66
  go_upto_region 12 with (first | (go_at_call 80; refine (rnext_any Aj cj 32 J wc HC.out.1 (by omega)).mono ?_; rintro e w12 ⟨gn, cn, rfl, hOn, hBn⟩; have H12 := Lib.hid (And.intro hOn.rd hBn); clear hOn hBn) | (go_at_call 51; refine (rctr_any c 32 E D (some ⟨gn, 0, none⟩) C cn n cb (stepL 32 J) b w12 (HH.out.1.below (Old.trans HC.out.2.1 H12.out.2)) HH.out.2.1 (by omega) H12.out.1 (HH.out.2.2.2.2.1.below (Old.trans HC.out.2.1 H12.out.2)) (by omega)).mono ?_; rintro e w13 ⟨Ao, no, co, rfl, hOo, hBo⟩; have H13 := Lib.hid (And.intro hOo (And.intro hBo (Old.trans H12.out.2 hBo))); clear hOo hBo))
  have hO13 := H13.out.1
  have hno : no ≤ n := by
   have h1 := hO13.len
   have h2 := cnt1_le E 32 b [] (stepL 32 J)
   have h3 := HH.out.2.2.2.2.1.1
   omega
  rw [HH.out.2.2.2.2.2.2.2.2.1] at hO13
  have hW13 : Old w w13 := Old.trans HC.out.2.1 H13.out.2.2
  have HD := Lib.hid (And.intro (hO13.mono (Old.trans HC.out.2.1 H12.out.2).size) (And.intro hW13 (And.intro (HC.out.1.below H13.out.2.2) (HC.out.2.2.below H13.out.2.2))))
  clear hO13 hW13
  go_upto_if 62 with fail
  go_cut [18] from 19 to 93 (fun v wx => ∃ (At : Option Addr) (nt ct : Nat), v = .slice At nt ct ∧ Rd w13 At nt ct TX ∧ nt ≤ 40000 ∧ w13 = wx)
  case first =>
   cases enc with
   | true =>
    have h := HH.out.2.2.2.2.2.2.2.2.2.1
    rw [if_pos rfl] at h
    have HX := Lib.hid h
    clear h
    go_wp2_with fail
    go_meet
    case rel => exact ⟨Ao, no, co, rfl, by rw [HX.out]; exact HD.out.1.rd, by omega, rfl⟩
   | false =>
    have h := HH.out.2.2.2.2.2.2.2.2.2.1
    rw [if_neg (by decide)] at h
    have HX := Lib.hid h
    clear h
    go_wp2_with fail
    go_meet
    case rel => exact ⟨C, n, cb, rfl, by rw [HX.out]; exact HH.out.2.2.2.2.1.below HD.out.2.1, by omega, rfl⟩
  case rest =>
   obtain ⟨At, nt, ct, rfl, hRt, hnt, rfl⟩ := hcut
   obtain ⟨e3, he3⟩ : ∃ e, nt * 8 = e := ⟨_, rfl⟩
   have he3i : 8 * (nt : Int) = (e3 : Int) := by omega
   have he3w : IntKind.i64.wrap (e3 : Int) = (e3 : Int) := IntWalk.i64_in _ (by omega)
   have HT := Lib.hid (And.intro hRt (And.intro he3 (And.intro hRt.1 HH.out.2.2.2.1.1)))
   clear hRt he3
   go_upto_region 16 with (go_at_call 81; refine (fill_any AD nd cD dd w13 (HH.out.2.2.2.1.below HD.out.2.1) (by have := HT.out.2.2.2; omega)).mono ?_; rintro e w14 ⟨A15, n15, c15, rfl, hO15, hB15⟩; have H15 := Lib.hid (And.intro hO15 hB15); clear hO15 hB15)
   go_upto_region 17 with (go_at_call 81; refine (fill_any At nt ct TX w14 (HT.out.1.below H15.out.2) (by have := HT.out.2.2.1; omega)).mono ?_; rintro e w15 ⟨A16, n16, c16, rfl, hO16, hB16⟩; have H16 := Lib.hid (And.intro hO16 (And.intro hB16 (Old.trans H15.out.2 hB16))); clear hO16 hB16)
   have hl1 : (fillL dd).length ≤ nd + 16 := by unfold fillL padN_q; rw [List.length_append, zs_len]; have := HT.out.2.2.2; omega
   have hl2 : (fillL TX).length ≤ nt + 16 := by unfold fillL padN_q; rw [List.length_append, zs_len]; have := HT.out.2.2.1; omega
   go_upto_region 18 with (at_builtin; refine wp_app2 (.tmp 68) (.tmp 69) w13.heap.size (.slice A15 n15 c15) _ (H15.out.1.below H16.out.2.1) H16.out.2.2.size A16 n16 c16 _ H16.out.1.rd (by omega) rfl rfl rfl rfl ?_; intro A17 n17 c17 w17 hn17 hG17; have H17 := Lib.hid (And.intro hG17 (Below.trans H16.out.2.2 hG17.below)); clear hG17)
   go_upto_region 19 with (go_at_call 82; refine (eight_any e2 w17 (by omega)).mono ?_; rintro e w18 ⟨rfl, hO18, hB18⟩; have H18 := Lib.hid (And.intro hO18.rd (And.intro hB18 (Below.trans H17.out.2 (hB18.mono H17.out.2.size)))); clear hO18 hB18)
   go_upto_region 20 with (at_builtin; refine wp_app2 (.tmp 75) (.tmp 76) w13.heap.size (.slice A17 n17 c17) _ (H17.out.1.own.below H18.out.2.1) H18.out.2.2.size (some ⟨w17.heap.size, 0, none⟩) 8 8 _ H18.out.1 (by rw [List.length_append, bytes64_len]; omega) rfl rfl rfl rfl ?_; intro A19 n19 c19 w19 hn19 hG19; have H19 := Lib.hid (And.intro hG19 (Below.trans H18.out.2.2 hG19.below)); clear hG19)
   go_upto_region 21 with (go_at_call 82; refine (eight_any e3 w19 (by omega)).mono ?_; rintro e w20 ⟨rfl, hO20, hB20⟩; have H20 := Lib.hid (And.intro hO20.rd (And.intro hB20 (Below.trans H19.out.2 (hB20.mono H19.out.2.size)))); clear hO20 hB20)
   go_upto_region 22 with (at_builtin; refine wp_app2 (.tmp 82) (.tmp 83) w13.heap.size (.slice A19 n19 c19) _ (H19.out.1.own.below H20.out.2.1) H20.out.2.2.size (some ⟨w19.heap.size, 0, none⟩) 8 8 _ H20.out.1 (by rw [List.length_append, List.length_append, bytes64_len, bytes64_len]; omega) rfl rfl rfl rfl ?_; intro A21 n21 c21 w21 hn21 hG21; have H21 := Lib.hid (And.intro hG21 (Below.trans H20.out.2.2 hG21.below)); clear hG21)
   go_upto_region 23 with (go_at_call 83; refine (rgh_any (some ⟨gH, 0, none⟩) A21 16 n21 c21 _ _ w21 (HD.out.2.2.2.below H21.out.2) H21.out.1.own.rd (by rw [List.length_append, List.length_append, List.length_append, bytes64_len, bytes64_len]; omega)).mono ?_; rintro e w22 ⟨gs, cs, rfl, hOs, hBs⟩; have H22 := Lib.hid (And.intro hOs.rd (Old.trans H21.out.2 hBs)); clear hOs hBs)
   go_wp2_with (first | (go_at_call 48; refine (HH.out.1.1 w22 _ _ _ (Old.trans HD.out.2.1 H22.out.2) (HD.out.2.2.1.below H22.out.2)).mono ?_; rintro e w23 ⟨ge, rfl, hRe, hBe, _⟩; have H23 := Lib.hid (And.intro hRe (And.intro hBe (Old.trans H22.out.2 hBe))); clear hRe hBe) | (go_at_call 78; refine (rxorn_any (some ⟨gs, 0, none⟩) (some ⟨ge, 0, none⟩) 16 cs 16 16 _ _ w23 (H22.out.1.below H23.out.2.1) H23.out.1 (Nat.le_refl _) (by omega)).mono ?_; rintro e w24 ⟨rfl, hO24, hB24⟩; have H24 := Lib.hid (And.intro hO24.rd (Old.trans H23.out.2.2 hB24)); clear hO24 hB24))
   refine bodyPost_ret (results_tmp2 rfl _ _ _) rfl ?_
   refine ⟨Ao, no, co, _, _, rfl, HD.out.1.below H24.out.2, ?_, ?_, Old.trans HD.out.2.1 H24.out.2⟩
   ·rw [HH.out.2.2.2.2.2.1, ← HT.out.2.2.2, ← HT.out.2.2.1, HE8.out.2, HT.out.2.1]
    exact H24.out.1
   ·intro ad e e2
    cases e
    have h1 : w23.heap.size < w13.heap.size := (HD.out.1.lt e2).2
    have h2 := H23.out.2.2.size
    omega
def openF (E : List UInt8 → List UInt8) (p b : List UInt8) : List UInt8 × Int :=
 if b.length < 16 then ([], 65) else if gcmT E p (b.take (b.length - 16)) = b.drop (b.length - 16) then (gcmO E p (b.take (b.length - 16)), 0) else ([], 64)
theorem allF_open (k p b : List UInt8) (hk : keyOk k) (hp : gcmOk p) : allF 5 false k p b = openF (encL (rks k) ((rks k).length / 16)) p b := by
 have hpar : parOk 5 p := by unfold parOk; exact hp
 have hf : ((PSof 5 false k p).fin b) = openF (encL (rks k) ((rks k).length / 16)) p b := by
  unfold PS.fin
  rw [if_neg (show ¬ (PSof 5 false k p).mode = 4 from (by show ¬ (5 : Nat) = 4; decide)), if_pos (show (PSof 5 false k p).mode = 5 from rfl), if_neg (show ¬ (PSof 5 false k p).enc = true from (by show ¬ false = true; decide))]
  rfl
 have hfr : (PSof 5 false k p).front b = [] := by unfold PS.front; rw [if_neg (show ¬ (PSof 5 false k p).mode = 4 from (by show ¬ (5 : Nat) = 4; decide)), if_pos (show (PSof 5 false k p).mode = 5 from rfl), if_neg (show ¬ (PSof 5 false k p).enc = true from (by show ¬ false = true; decide))]
 unfold allF
 rw [if_neg (by decide), if_neg (fun h => h hk)]
 show (if ¬ parOk 5 p then _ else _) = _
 rw [if_neg (fun h => h hpar)]
 show (if ((PSof 5 false k p).fin b).2 = 0 then ((PSof 5 false k p).front b ++ ((PSof 5 false k p).fin b).1, 0) else ([], ((PSof 5 false k p).fin b).2)) = _
 rw [hf, hfr]
 unfold openF
 split
 ·rfl
 ·split
  ·rfl
  ·rfl
theorem le_R16 {w : World} {A : Option Addr} {m c : Nat} {l : List UInt8} (h : Rd w A m c l) : m ≤ c := h.2.1
def RvNew (w : World) (r : List UInt8 × Int) (e : Ending) (w' : World) : Prop := ∃ A n c, e = .returned (.tuple #[.slice A n c, .int .i64 r.2]) ∧ Rd w' A n c r.1 ∧ (∀ ad, A = some ad → w.heap.size ≤ ad.block) ∧ Old w w'
theorem RvNew.res {w w' : World} {r : List UInt8 × Int} {e : Ending} (h : RvNew w r e w') : RvRes w r e w' := by
 obtain ⟨A, n, c, h1, h2, _, h3⟩ := h
 exact ⟨A, n, c, h1, h2, h3⟩
theorem RvNew.nil (w w' : World) (rv : Int) (h : Old w w') : RvNew w ([], rv) (.returned (.tuple #[.slice none 0 0, .int .i64 rv])) w' := ⟨none, 0, 0, rfl, Rd.nil _, (fun ad e => by cases e), h⟩
set_option maxHeartbeats 4000000 in
theorem ralln_open (A P C : Option Addr) (mk ck mp cp n cb : Nat) (k p b : List UInt8) (w : World) (hk : Rd w A mk ck k) (hp : Rd w P mp cp p) (hb : Rd w C n cb b) (hko : keyOk k) (hpo : gcmOk p) (hmp : mp ≤ 40000) (hn : n ≤ 40000) :
  Calls Tryz.prog 20 #[.int .i64 5, .bool false, .slice A mk ck, .slice P mp cp, .slice C n cb] w (RvNew w (openF (encL (rks k) ((rks k).length / 16)) p b)) := by
 have hcall := rnew_any A mk ck k w hk hko
 obtain ⟨TG, hTG⟩ : ∃ T, openF (encL (rks k) ((rks k).length / 16)) p b = T := ⟨_, rfl⟩
 rw [hTG]
 have hcb := le_R16 hb
 obtain ⟨q, hq⟩ : ∃ q, n / 16 = q := ⟨_, rfl⟩
 have hq1 : Int.tdiv (n : Int) 16 = (q : Int) := by rw [Int.tdiv_eq_ediv_of_nonneg (by omega)]; omega
 have hq2 : (n : Int) / 16 = (q : Int) := by omega
 obtain ⟨n5, hn5⟩ : ∃ n5, q * 16 = n5 := ⟨_, rfl⟩
 have hn5i : (q : Int) * 16 = (n5 : Int) := by omega
 have hn5w : IntKind.i64.wrap (n5 : Int) = (n5 : Int) := IntWalk.i64_in _ (by omega)
 have hsl := slice_to C n cb n5 hb.spot (by omega)
 have hnl := hb.1
 have HH := Lib.hid (And.intro hcall (And.intro hp (And.intro hb (And.intro hpo (And.intro hnl hTG)))))
 have HQ := Lib.hid (And.intro hq hn5)
 clear hcall hp hb hk hpo hnl hTG hq hn5
 by_cases h16 : n5 = n
 ·have he : ((n5 : Int) == (n : Int)) = true := by simp; omega
  clear h16
  by_cases hlt : n < 16
  ·have hli : (n : Int) < 16 := by omega
   have hld : decide ((n : Int) < 16) = true := decide_eq_true hli
   have HT : Hid (TG = ([], 65)) := Lib.hid (by rw [← HH.out.2.2.2.2.2]; unfold openF; rw [if_pos (by rw [← HH.out.2.2.2.2.1]; exact hlt)])
   clear hlt
   go_enter Tryz.func20, Tryz.ntmps20
   go_wp2_with fail
   refine HH.out.1.mono ?_
   rintro e w1 ⟨c, kb, R, cap, g1, g2, rfl, hC, hB⟩
   have H1 := Lib.hid hB
   clear hB hC hko
   go_wp2_with fail
   refine bodyPost_ret (results_tmp2 rfl _ _ _) rfl ?_
   rw [HT.out]
   exact RvNew.nil _ _ _ H1.out
  ·have hli : ¬ (n : Int) < 16 := by omega
   have hld : decide ((n : Int) < 16) = false := decide_eq_false hli
   obtain ⟨nb, hnb⟩ : ∃ nb, n - 16 = nb := ⟨_, rfl⟩
   have hnbi : (n : Int) - 16 = (nb : Int) := by omega
   have hnbw : IntKind.i64.wrap (nb : Int) = (nb : Int) := IntWalk.i64_in _ (by omega)
   have hnl2 : ¬ b.length < 16 := by rw [← HH.out.2.2.2.2.1]; exact hlt
   have hsb := slice_to C n cb nb HH.out.2.2.1.spot (by omega)
   have hrb := HH.out.2.2.1.front (k := nb) (by omega)
   obtain ⟨A6, n6, c6, hn6, hS6, hR6, _⟩ := HH.out.2.2.1.cut_ex2 (k := nb) (by omega)
   have HN := Lib.hid (And.intro hnb (And.intro hrb (And.intro hR6 (And.intro hnl2 hS6))))
   have hnb4 : nb ≤ 40000 := by omega
   clear hlt hnb hrb hR6 hnl2 hn6 hS6
   go_enter Tryz.func20, Tryz.ntmps20
   go_wp2_with fail
   refine HH.out.1.mono ?_
   rintro e w1 ⟨c, kb, R, cap, g1, g2, rfl, hC, hB⟩
   have hR : (rks k).length / 16 = R := by have : (rks k).length = 16 * R := hC.2.2.1; omega
   have hTG := HH.out.2.2.2.2.2
   rw [hR] at hTG
   have hEl : ∀ l : List UInt8, l.length = 16 → (encL (rks k) R l).length = 16 := fun l hl => enc_ne _ R l hl hC.2.2.1
   have hen := REn.of hC
   obtain ⟨E, hE⟩ : ∃ E, encL (rks k) R = E := ⟨_, rfl⟩
   obtain ⟨D, hD⟩ : ∃ D, decL (rks k) R = D := ⟨_, rfl⟩
   rw [hE, hD] at hen
   rw [hE] at hEl hTG
   unfold openF at hTG
   rw [if_neg HN.out.2.2.2.1, ← HH.out.2.2.2.2.1, HN.out.1] at hTG
   obtain ⟨lo, hlo⟩ : ∃ l, gcmO E p (b.take nb) = l := ⟨_, rfl⟩
   obtain ⟨lt, hlt⟩ : ∃ l, gcmT E p (b.take nb) = l := ⟨_, rfl⟩
   obtain ⟨lb, hlb⟩ : ∃ l, b.drop nb = l := ⟨_, rfl⟩
   rw [hlo, hlt, hlb] at hTG
   have hR6 := HN.out.2.2.1
   rw [hlb] at hR6
   have HL := Lib.hid (And.intro hlo (And.intro hlt (And.intro hTG hR6)))
   have H1 := Lib.hid (And.intro hen (And.intro hEl hB))
   clear hC hen hEl hE hD hR hB hko hTG hlo hlt hlb hR6
   go_upto_region 38 with (go_at_call 52; refine (rgcm_any c false E D P C mp cp nb cb p (b.take nb) w1 H1.out.1 H1.out.2.1 (HH.out.2.1.below H1.out.2.2) HH.out.2.2.2.1 hmp (HN.out.2.1.below H1.out.2.2) hnb4).mono ?_; rintro e w4 ⟨A4, n4, c4, A5, c5, rfl, hO4, hR5, _, hB4⟩; have H4 := Lib.hid (And.intro hO4.rd (And.intro hR5 (Old.trans H1.out.2.2 hB4))); have HA4 := Lib.hid (hO4.addr_ge); clear hO4 hR5 hB4)
   have hR4 := H4.out.1
   have hR5 := H4.out.2.1
   unfold gcmX at hR5
   rw [if_neg (by decide), HL.out.2.1] at hR5
   rw [HL.out.1] at hR4
   have HR := Lib.hid (And.intro hR4 (And.intro hR5 (HL.out.2.2.2.below H4.out.2.2)))
   clear hR4 hR5
   refine region_old (by kernel_rfl) (fun wd hHeld hSz => ?_)
   have HSz := Lib.hid hSz
   clear hSz
   have hOd := hHeld
   refine tkS 0 hHeld ?_
   refine tkS 1 hHeld ?_ (hy := by intro wq hSw; have hRun := HR.out.2.1.str_below hSw; clear hSw; go_simp; try with_reducible rfl)
   refine tkS 2 hHeld ?_
   refine tkS 3 hHeld ?_
   refine tkS 4 hHeld ?_
   refine tkS 5 hHeld ?_
   refine tkS 6 hHeld ?_ (hy := by intro wq hSw; have hRun := HN.out.2.2.2.2 wq; clear hSw; go_simp; try with_reducible rfl)
   refine tkS 7 hHeld ?_ (hy := by intro wq hSw; have hRun := HR.out.2.2.str_below hSw; clear hSw; go_simp; try with_reducible rfl)
   refine tkS 8 hHeld ?_
   refine wpAnyH_done (by kernel_rfl) ?_ _
   refine NoPanic.normal ?_
   have HO := Lib.hid (H4.out.2.2.trans hHeld)
   have HOd := Lib.hid (hHeld)
   clear hOd hHeld
   try simp only [Exit.then]
   try go_at_K
   by_cases hq : lt = lb
   ·have hT := HL.out.2.2.1
    rw [if_pos hq] at hT
    subst hq
    have HT := Lib.hid hT
    clear hT
    simp only [beq_self_eq_true, Bool.not_true]
    go_wp2_with fail
    refine bodyPost_ret (results_tmp2 rfl _ _ _) rfl ?_
    rw [← HT.out]
    exact ⟨_, _, _, rfl, HR.out.1.below HOd.out, fun ad e => (by have h1 := HA4.out ad e; have h2 := H1.out.2.2.size; omega), HO.out⟩
   ·have hT := HL.out.2.2.1
    rw [if_neg hq] at hT
    have HT := Lib.hid hT
    have hbe : (lt == lb) = false := by simpa using hq
    clear hT hq
    simp only [hbe, Bool.not_false]
    go_wp2_with fail
    refine bodyPost_ret (results_tmp2 rfl _ _ _) rfl ?_
    rw [← HT.out]
    exact RvNew.nil _ _ _ HO.out
 ·have he : ((n5 : Int) == (n : Int)) = false := by simp; omega
  clear h16
  by_cases hlt : n < 16
  ·have hli : (n : Int) < 16 := by omega
   have hld : decide ((n : Int) < 16) = true := decide_eq_true hli
   have HT : Hid (TG = ([], 65)) := Lib.hid (by rw [← HH.out.2.2.2.2.2]; unfold openF; rw [if_pos (by rw [← HH.out.2.2.2.2.1]; exact hlt)])
   clear hlt
   go_enter Tryz.func20, Tryz.ntmps20
   go_wp2_with fail
   refine HH.out.1.mono ?_
   rintro e w1 ⟨c, kb, R, cap, g1, g2, rfl, hC, hB⟩
   have H1 := Lib.hid hB
   clear hB hC hko
   go_wp2_with fail
   refine bodyPost_ret (results_tmp2 rfl _ _ _) rfl ?_
   rw [HT.out]
   exact RvNew.nil _ _ _ H1.out
  ·have hli : ¬ (n : Int) < 16 := by omega
   have hld : decide ((n : Int) < 16) = false := decide_eq_false hli
   obtain ⟨nb, hnb⟩ : ∃ nb, n - 16 = nb := ⟨_, rfl⟩
   have hnbi : (n : Int) - 16 = (nb : Int) := by omega
   have hnbw : IntKind.i64.wrap (nb : Int) = (nb : Int) := IntWalk.i64_in _ (by omega)
   have hnl2 : ¬ b.length < 16 := by rw [← HH.out.2.2.2.2.1]; exact hlt
   have hsb := slice_to C n cb nb HH.out.2.2.1.spot (by omega)
   have hrb := HH.out.2.2.1.front (k := nb) (by omega)
   obtain ⟨A6, n6, c6, hn6, hS6, hR6, _⟩ := HH.out.2.2.1.cut_ex2 (k := nb) (by omega)
   have HN := Lib.hid (And.intro hnb (And.intro hrb (And.intro hR6 (And.intro hnl2 hS6))))
   have hnb4 : nb ≤ 40000 := by omega
   clear hlt hnb hrb hR6 hnl2 hn6 hS6
   go_enter Tryz.func20, Tryz.ntmps20
   go_wp2_with fail
   refine HH.out.1.mono ?_
   rintro e w1 ⟨c, kb, R, cap, g1, g2, rfl, hC, hB⟩
   have hR : (rks k).length / 16 = R := by have : (rks k).length = 16 * R := hC.2.2.1; omega
   have hTG := HH.out.2.2.2.2.2
   rw [hR] at hTG
   have hEl : ∀ l : List UInt8, l.length = 16 → (encL (rks k) R l).length = 16 := fun l hl => enc_ne _ R l hl hC.2.2.1
   have hen := REn.of hC
   obtain ⟨E, hE⟩ : ∃ E, encL (rks k) R = E := ⟨_, rfl⟩
   obtain ⟨D, hD⟩ : ∃ D, decL (rks k) R = D := ⟨_, rfl⟩
   rw [hE, hD] at hen
   rw [hE] at hEl hTG
   unfold openF at hTG
   rw [if_neg HN.out.2.2.2.1, ← HH.out.2.2.2.2.1, HN.out.1] at hTG
   obtain ⟨lo, hlo⟩ : ∃ l, gcmO E p (b.take nb) = l := ⟨_, rfl⟩
   obtain ⟨lt, hlt⟩ : ∃ l, gcmT E p (b.take nb) = l := ⟨_, rfl⟩
   obtain ⟨lb, hlb⟩ : ∃ l, b.drop nb = l := ⟨_, rfl⟩
   rw [hlo, hlt, hlb] at hTG
   have hR6 := HN.out.2.2.1
   rw [hlb] at hR6
   have HL := Lib.hid (And.intro hlo (And.intro hlt (And.intro hTG hR6)))
   have H1 := Lib.hid (And.intro hen (And.intro hEl hB))
   clear hC hen hEl hE hD hR hB hko hTG hlo hlt hlb hR6
   go_upto_region 38 with (go_at_call 52; refine (rgcm_any c false E D P C mp cp nb cb p (b.take nb) w1 H1.out.1 H1.out.2.1 (HH.out.2.1.below H1.out.2.2) HH.out.2.2.2.1 hmp (HN.out.2.1.below H1.out.2.2) hnb4).mono ?_; rintro e w4 ⟨A4, n4, c4, A5, c5, rfl, hO4, hR5, _, hB4⟩; have H4 := Lib.hid (And.intro hO4.rd (And.intro hR5 (Old.trans H1.out.2.2 hB4))); have HA4 := Lib.hid (hO4.addr_ge); clear hO4 hR5 hB4)
   have hR4 := H4.out.1
   have hR5 := H4.out.2.1
   unfold gcmX at hR5
   rw [if_neg (by decide), HL.out.2.1] at hR5
   rw [HL.out.1] at hR4
   have HR := Lib.hid (And.intro hR4 (And.intro hR5 (HL.out.2.2.2.below H4.out.2.2)))
   clear hR4 hR5
   refine region_old (by kernel_rfl) (fun wd hHeld hSz => ?_)
   have HSz := Lib.hid hSz
   clear hSz
   have hOd := hHeld
   refine tkS 0 hHeld ?_
   refine tkS 1 hHeld ?_ (hy := by intro wq hSw; have hRun := HR.out.2.1.str_below hSw; clear hSw; go_simp; try with_reducible rfl)
   refine tkS 2 hHeld ?_
   refine tkS 3 hHeld ?_
   refine tkS 4 hHeld ?_
   refine tkS 5 hHeld ?_
   refine tkS 6 hHeld ?_ (hy := by intro wq hSw; have hRun := HN.out.2.2.2.2 wq; clear hSw; go_simp; try with_reducible rfl)
   refine tkS 7 hHeld ?_ (hy := by intro wq hSw; have hRun := HR.out.2.2.str_below hSw; clear hSw; go_simp; try with_reducible rfl)
   refine tkS 8 hHeld ?_
   refine wpAnyH_done (by kernel_rfl) ?_ _
   refine NoPanic.normal ?_
   have HO := Lib.hid (H4.out.2.2.trans hHeld)
   have HOd := Lib.hid (hHeld)
   clear hOd hHeld
   try simp only [Exit.then]
   try go_at_K
   by_cases hq : lt = lb
   ·have hT := HL.out.2.2.1
    rw [if_pos hq] at hT
    subst hq
    have HT := Lib.hid hT
    clear hT
    simp only [beq_self_eq_true, Bool.not_true]
    go_wp2_with fail
    refine bodyPost_ret (results_tmp2 rfl _ _ _) rfl ?_
    rw [← HT.out]
    exact ⟨_, _, _, rfl, HR.out.1.below HOd.out, fun ad e => (by have h1 := HA4.out ad e; have h2 := H1.out.2.2.size; omega), HO.out⟩
   ·have hT := HL.out.2.2.1
    rw [if_neg hq] at hT
    have HT := Lib.hid hT
    have hbe : (lt == lb) = false := by simpa using hq
    clear hT hq
    simp only [hbe, Bool.not_false]
    go_wp2_with fail
    refine bodyPost_ret (results_tmp2 rfl _ _ _) rfl ?_
    rw [← HT.out]
    exact RvNew.nil _ _ _ HO.out
theorem rall_open (A P C : Option Addr) (mk ck mp cp n cb : Nat) (k p b : List UInt8) (w : World) (hk : Rd w A mk ck k) (hp : Rd w P mp cp p) (hb : Rd w C n cb b) (hko : keyOk k) (hpo : gcmOk p) (hmp : mp ≤ 40000) (hn : n ≤ 40000) :
  Calls Tryz.prog 20 #[.int .i64 5, .bool false, .slice A mk ck, .slice P mp cp, .slice C n cb] w (RvRes w (openF (encL (rks k) ((rks k).length / 16)) p b)) := (ralln_open A P C mk ck mp cp n cb k p b w hk hp hb hko hpo hmp hn).mono fun _ _ h => h.res
set_option maxHeartbeats 4000000 in
theorem ralln_seal (A P C : Option Addr) (mk ck mp cp n cb : Nat) (k p b : List UInt8) (w : World) (hk : Rd w A mk ck k) (hp : Rd w P mp cp p) (hb : Rd w C n cb b) (hko : keyOk k) (hpo : gcmOk p) (hmp : mp ≤ 40000) (hn : n ≤ 40000) :
  Calls Tryz.prog 20 #[.int .i64 5, .bool true, .slice A mk ck, .slice P mp cp, .slice C n cb] w (RvNew w (gcmO (encL (rks k) ((rks k).length / 16)) p b ++ gcmT (encL (rks k) ((rks k).length / 16)) p (gcmO (encL (rks k) ((rks k).length / 16)) p b), 0)) := by
 have hcall := rnew_any A mk ck k w hk hko
 obtain ⟨TG, hTG⟩ : ∃ T, gcmO (encL (rks k) ((rks k).length / 16)) p b ++ gcmT (encL (rks k) ((rks k).length / 16)) p (gcmO (encL (rks k) ((rks k).length / 16)) p b) = T := ⟨_, rfl⟩
 rw [hTG]
 have hcb := le_R16 hb
 obtain ⟨q, hq⟩ : ∃ q, n / 16 = q := ⟨_, rfl⟩
 have hq1 : Int.tdiv (n : Int) 16 = (q : Int) := by rw [Int.tdiv_eq_ediv_of_nonneg (by omega)]; omega
 have hq2 : (n : Int) / 16 = (q : Int) := by omega
 obtain ⟨n5, hn5⟩ : ∃ n5, q * 16 = n5 := ⟨_, rfl⟩
 have hn5i : (q : Int) * 16 = (n5 : Int) := by omega
 have hn5w : IntKind.i64.wrap (n5 : Int) = (n5 : Int) := IntWalk.i64_in _ (by omega)
 have hsl := slice_to C n cb n5 hb.spot (by omega)
 have HH := Lib.hid (And.intro hcall (And.intro hp (And.intro hb (And.intro hpo hTG))))
 have HQ := Lib.hid (And.intro hq hn5)
 clear hcall hp hb hk hpo hTG hq hn5
 by_cases h16 : n5 = n
 ·have he : ((n5 : Int) == (n : Int)) = true := by simp; omega
  clear h16
  go_enter Tryz.func20, Tryz.ntmps20
  go_wp2_with fail
  refine HH.out.1.mono ?_
  rintro e w1 ⟨c, kb, R, cap, g1, g2, rfl, hC, hB⟩
  have hR : (rks k).length / 16 = R := by have : (rks k).length = 16 * R := hC.2.2.1; omega
  have hTG := HH.out.2.2.2.2
  rw [hR] at hTG
  have hEl : ∀ l : List UInt8, l.length = 16 → (encL (rks k) R l).length = 16 := fun l hl => enc_ne _ R l hl hC.2.2.1
  have hen := REn.of hC
  obtain ⟨E, hE⟩ : ∃ E, encL (rks k) R = E := ⟨_, rfl⟩
  obtain ⟨D, hD⟩ : ∃ D, decL (rks k) R = D := ⟨_, rfl⟩
  rw [hE, hD] at hen
  rw [hE] at hEl hTG
  have H1 := Lib.hid (And.intro hen (And.intro hEl (And.intro hB hTG)))
  clear hC hen hEl hE hD hR hB hko hTG
  go_upto_region 34 with (go_at_call 52; refine (rgcm_any c true E D P C mp cp n cb p b w1 H1.out.1 H1.out.2.1 (HH.out.2.1.below H1.out.2.2.1) HH.out.2.2.2.1 hmp (HH.out.2.2.1.below H1.out.2.2.1) hn).mono ?_; rintro e w4 ⟨A4, n4, c4, A5, c5, rfl, hO4, hR5, _, hB4⟩; have H4 := Lib.hid (And.intro hO4 (And.intro hR5 hB4)); clear hO4 hR5 hB4)
  have hR5 := H4.out.2.1
  unfold gcmX at hR5
  rw [if_pos rfl] at hR5
  have hn4 : n4 ≤ 40000 := by
   have h1 := H4.out.1.len
   have h2 := cnt1_le E 32 b [] (stepL 32 (gcmJ E p))
   have h3 := HH.out.2.2.1.1
   unfold gcmO at h1
   omega
  have HR := Lib.hid hR5
  clear hR5
  go_wp2_with (at_builtin; refine wp_app2 (.tmp 118) (.tmp 119) w1.heap.size (.slice A4 n4 c4) _ H4.out.1 H4.out.2.2.size A5 16 c5 _ HR.out (by have h1 := H4.out.1.len; have h2 := HR.out.1; omega) rfl rfl rfl rfl ?_; intro A9 n9 c9 w9 hn9 hG9; have H9 := Lib.hid hG9; clear hG9)
  refine bodyPost_ret (results_tmp2 rfl _ _ _) rfl ?_
  rw [← H1.out.2.2.2]
  exact ⟨_, _, _, rfl, H9.out.own.rd, fun ad e => (by have h1 := H9.out.own.addr_ge ad e; have h2 := H1.out.2.2.1.size; omega), Old.trans H1.out.2.2.1 (Below.trans H4.out.2.2 H9.out.below)⟩
 ·have he : ((n5 : Int) == (n : Int)) = false := by simp; omega
  clear h16
  go_enter Tryz.func20, Tryz.ntmps20
  go_wp2_with fail
  refine HH.out.1.mono ?_
  rintro e w1 ⟨c, kb, R, cap, g1, g2, rfl, hC, hB⟩
  have hR : (rks k).length / 16 = R := by have : (rks k).length = 16 * R := hC.2.2.1; omega
  have hTG := HH.out.2.2.2.2
  rw [hR] at hTG
  have hEl : ∀ l : List UInt8, l.length = 16 → (encL (rks k) R l).length = 16 := fun l hl => enc_ne _ R l hl hC.2.2.1
  have hen := REn.of hC
  obtain ⟨E, hE⟩ : ∃ E, encL (rks k) R = E := ⟨_, rfl⟩
  obtain ⟨D, hD⟩ : ∃ D, decL (rks k) R = D := ⟨_, rfl⟩
  rw [hE, hD] at hen
  rw [hE] at hEl hTG
  have H1 := Lib.hid (And.intro hen (And.intro hEl (And.intro hB hTG)))
  clear hC hen hEl hE hD hR hB hko hTG
  go_upto_region 34 with (go_at_call 52; refine (rgcm_any c true E D P C mp cp n cb p b w1 H1.out.1 H1.out.2.1 (HH.out.2.1.below H1.out.2.2.1) HH.out.2.2.2.1 hmp (HH.out.2.2.1.below H1.out.2.2.1) hn).mono ?_; rintro e w4 ⟨A4, n4, c4, A5, c5, rfl, hO4, hR5, _, hB4⟩; have H4 := Lib.hid (And.intro hO4 (And.intro hR5 hB4)); clear hO4 hR5 hB4)
  have hR5 := H4.out.2.1
  unfold gcmX at hR5
  rw [if_pos rfl] at hR5
  have hn4 : n4 ≤ 40000 := by
   have h1 := H4.out.1.len
   have h2 := cnt1_le E 32 b [] (stepL 32 (gcmJ E p))
   have h3 := HH.out.2.2.1.1
   unfold gcmO at h1
   omega
  have HR := Lib.hid hR5
  clear hR5
  go_wp2_with (at_builtin; refine wp_app2 (.tmp 118) (.tmp 119) w1.heap.size (.slice A4 n4 c4) _ H4.out.1 H4.out.2.2.size A5 16 c5 _ HR.out (by have h1 := H4.out.1.len; have h2 := HR.out.1; omega) rfl rfl rfl rfl ?_; intro A9 n9 c9 w9 hn9 hG9; have H9 := Lib.hid hG9; clear hG9)
  refine bodyPost_ret (results_tmp2 rfl _ _ _) rfl ?_
  rw [← H1.out.2.2.2]
  exact ⟨_, _, _, rfl, H9.out.own.rd, fun ad e => (by have h1 := H9.out.own.addr_ge ad e; have h2 := H1.out.2.2.1.size; omega), Old.trans H1.out.2.2.1 (Below.trans H4.out.2.2 H9.out.below)⟩
theorem allF_ok5 (k p b : List UInt8) (hk : keyOk k) (hp : gcmOk p) : (allF 5 true k p b).1 = gcmO (encL (rks k) ((rks k).length / 16)) p b ++ gcmT (encL (rks k) ((rks k).length / 16)) p (gcmO (encL (rks k) ((rks k).length / 16)) p b) := by
 have hpar : parOk 5 p := by unfold parOk; exact hp
 have hf : ((PSof 5 true k p).fin b) = (gcmT (encL (rks k) ((rks k).length / 16)) p (gcmO (encL (rks k) ((rks k).length / 16)) p b), 0) := by
  unfold PS.fin
  rw [if_neg (show ¬ (PSof 5 true k p).mode = 4 from (by show ¬ (5 : Nat) = 4; decide)), if_pos (show (PSof 5 true k p).mode = 5 from rfl), if_pos (show (PSof 5 true k p).enc = true from rfl)]
  rfl
 have hfr : (PSof 5 true k p).front b = gcmO (encL (rks k) ((rks k).length / 16)) p b := by
  unfold PS.front
  rw [if_neg (show ¬ (PSof 5 true k p).mode = 4 from (by show ¬ (5 : Nat) = 4; decide)), if_pos (show (PSof 5 true k p).mode = 5 from rfl), if_pos (show (PSof 5 true k p).enc = true from rfl)]
  rfl
 unfold allF
 rw [if_neg (by decide), if_neg (fun h => h hk)]
 show (if ¬ parOk 5 p then (([] : List UInt8), (113 : Int)) else (if ((PSof 5 true k p).fin b).2 = 0 then ((PSof 5 true k p).front b ++ ((PSof 5 true k p).fin b).1, 0) else ([], ((PSof 5 true k p).fin b).2))).1 = _
 rw [if_neg (fun h => h hpar), hf, hfr, if_pos rfl]
end Go.Proofs.YtgjnmpjimhbfgaaGreatDoor
