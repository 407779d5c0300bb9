/-
  pins: begun; PinNone.
-/
import Derived.Test.YtdgjjmaiibafhaaDoorPinK
import Derived.Lib.SlBytesConst
namespace Go.Proofs.YtdgjjmaiibafhaaDoor
set_option maxRecDepth 100000
open Go.RowKit

theorem rd_const {w : World} {cs : Array Value} {fr : Nat × Nat} (l : List UInt8) (hcs : cs = (l.map B).toArray) (n : Nat) (hn : n = l.length) (hl : l.length ≤ 1000000) : Rd (w.alloc (.cells cs 5 fr)) (some ⟨w.heap.size, 0, none⟩) n n l := by
  subst hcs hn
  exact Rd.of_blk (heap_alloc_new w _) (by unfold maxLen; omega)
theorem begun_plain : ∃ salt H ds1, PS.none.put (DS.new []) pin1 = (0, ⟨true, salt, H, 0⟩, ds1) ∧ PS.check ⟨true, salt, H, 0⟩ pin9 = (0xa0, ⟨true, salt, H, 1⟩) ∧ PS.check ⟨true, salt, H, 1⟩ pin1 = (0, ⟨true, salt, H, 0⟩) ∧
    PS.check ⟨true, salt, H, 0⟩ pin1 = (0, ⟨true, salt, H, 0⟩) ∧ salt.length = 16 ∧ H.length = 32 := by
  have hne := pin_ne
  have hok := DS.ok_new (ent := []) (by simp)
  have hl := DS.bytes_len hok 16
  obtain ⟨D, hD⟩ : ∃ D, DS.new [] = D := ⟨_, rfl⟩
  rw [hD] at hne hl ⊢
  obtain ⟨salt, ds1, hb⟩ : ∃ salt ds1, D.bytes 16 = (salt, ds1) := ⟨_, _, rfl⟩
  rw [hb] at hne hl
  simp only at hne hl
  have hHl := pinH_len pin1 salt (by unfold pin1; simp) (by omega)
  obtain ⟨H, hH⟩ : ∃ H, pinH pin1 salt = H := ⟨_, rfl⟩
  rw [hH] at hne hHl
  refine ⟨salt, H, ds1, ?_, ?_, ?_, ?_, hl, hHl⟩
  · unfold PS.put
    rw [if_neg (by unfold pin1; simp), hb]
    simp only
    rw [hH]
  · unfold PS.check
    rw [if_neg (by simp), if_neg (by simp)]
    simp only
    rw [if_neg (of_decide_eq_false hne)]
  · unfold PS.check
    rw [if_neg (by simp), if_neg (by simp)]
    simp only
    rw [if_pos hH]
  · unfold PS.check
    rw [if_neg (by simp), if_neg (by simp)]
    simp only
    rw [if_pos hH]
set_option maxHeartbeats 2000000 in
theorem begun21_any (w : World) (hK : KAt w) : Calls Tryd.prog 6 #[] w fun e w' => e = .returned (.bool true) ∧ Old w w' := by
  obtain ⟨salt, PH, ds1, e1, e2, e3, e4, hsl, hhl⟩ := begun_plain
  have hok0 : PS.Ok ⟨true, salt, PH, 0⟩ := ⟨Nat.zero_le 3, fun _ => hsl, fun _ => hhl⟩
  have hok1 : PS.Ok ⟨true, salt, PH, 1⟩ := ⟨(by show 1 ≤ 3; omega), fun _ => hsl, fun _ => hhl⟩
  have HE := Lib.hid (And.intro e1 (And.intro e2 (And.intro e3 (And.intro e4 (And.intro hok0 hok1)))))
  have HW := Lib.hid hK
  have hn := pnew_any w
  have k1 := nePin
  have k1' := nePin'
  have kc := fun (w : World) (C : Array Value) (n c : Nat) => Lib.run_convert_bytes_const (P := Tryd.prog) w 22 5 C n c Tryd.underlying22 Tryd.underlying5
  clear hK e1 e2 e3 e4 hok0 hok1 hsl hhl
  go_enter Tryd.func6, Tryd.ntmps6
  go_wp2_with fail
  refine hn.mono ?_
  rintro e w1 ⟨p, rfl, hp1, hpw, hO1⟩
  have H1 := Lib.hid (And.intro hp1 (And.intro hpw hO1))
  clear hn hp1 hpw hO1
  go_wp2_with fail
  refine (drnew_any none 0 0 [] _ (Rd.nil _) (by simp) (HW.out.below (Old.alloc H1.out.2.2 _))).mono ?_
  rintro e w2 ⟨d, rfl, hD2, hdw, hO2⟩
  have hO02 : Old w w2 := Old.trans (Old.alloc H1.out.2.2 _) hO2
  have r2 := (rd_const (w := w1) (fr := (4, 5)) pin1 (cs := #[.int .u8 49, .int .u8 50, .int .u8 51, .int .u8 52]) rfl 4 rfl (by unfold pin1; simp)).below hO2
  have hD2' : d ≠ 1 := by have h1 := HW.out.1; have h2 := H1.out.2.2.size; simp at hdw; omega
  have hpk : p ≠ 1 := by have h1 := HW.out.1; have h2 := H1.out.2.1; omega
  have hpt := put_any p d PS.none (DS.new []) 0 (some ⟨w1.heap.size, 0, none⟩) 4 4 pin1 w2 (H1.out.1.below (Old.trans ((Old.refl w1).alloc _) hO2)) hD2 r2 (by omega) (by omega) (HW.out.below hO02) hD2' hpk
  rw [HE.out.1] at hpt
  have H2 := Lib.hid (And.intro hO02 (And.intro hdw hpk))
  clear hD2 hdw hO2 hO02 r2 hD2' hpk
  go_wp2_with fail
  refine hpt.mono ?_
  rintro e w3 ⟨left', hl1, hl2, rfl, hp3, _, hT3⟩
  have hO3 : Old w w3 := below_turn H2.out.1 hT3 (by have h1 := H1.out.2.1; have h2 := H2.out.2.1; have h3 := H1.out.2.2.size; simp at h2 ⊢; omega) H2.out.1.size
  have H3 := Lib.hid (And.intro hp3 hO3)
  clear hpt hp3 hT3 hO3 hl1 hl2
  go_wp2_with fail
  refine (check_any p ⟨true, salt, PH, 0⟩ _ 4 4 pin9 _ (H3.out.1.below ((Old.refl w3).alloc _)) HE.out.2.2.2.2.1 (rd_const (w := w3) (fr := (4, 5)) pin9 (cs := #[.int .u8 57, .int .u8 57, .int .u8 57, .int .u8 57]) rfl 4 rfl (by unfold pin9; simp)) (by unfold pin9; simp) (HW.out.below (Old.alloc H3.out.2 _))).mono ?_
  rw [HE.out.2.1]
  rintro e w4 ⟨rfl, hp4, hT4⟩
  have hO4 : Old w w4 := below_turn (Old.alloc H3.out.2 _) hT4 (by have h1 := H1.out.2.1; simp; exact h1) (Old.alloc H3.out.2 _).size
  have H4 := Lib.hid (And.intro hp4 hO4)
  clear hp4 hT4 hO4
  go_wp2_with fail
  refine (check_any p ⟨true, salt, PH, 1⟩ _ 4 4 pin1 _ (H4.out.1.below ((Old.refl w4).alloc _)) HE.out.2.2.2.2.2 (rd_const (w := w4) (fr := (4, 5)) pin1 (cs := #[.int .u8 49, .int .u8 50, .int .u8 51, .int .u8 52]) rfl 4 rfl (by unfold pin1; simp)) (by unfold pin1; simp) (HW.out.below (Old.alloc H4.out.2 _))).mono ?_
  rw [HE.out.2.2.1]
  rintro e w5 ⟨rfl, hp5, hT5⟩
  have hO5 : Old w w5 := below_turn (Old.alloc H4.out.2 _) hT5 (by have h1 := H1.out.2.1; simp; exact h1) (Old.alloc H4.out.2 _).size
  have hen := enc_any p _ w5 hp5 HE.out.2.2.2.2.1
  have H5 := Lib.hid (And.intro hp5 hO5)
  clear hp5 hT5 hO5
  go_wp2_with fail
  refine hen.mono ?_
  rintro e w6 ⟨A6, n6, c6, rfl, hE6, hO6⟩
  have hel := PS.enc_len HE.out.2.2.2.2.1 rfl
  have hn6 : n6 = 50 := by rw [hE6.len]; exact hel
  have hdc := dec_any A6 n6 c6 _ w6 hE6.rd (by omega)
  rw [PS.dec_enc HE.out.2.2.2.2.1] at hdc
  have H6 := Lib.hid (And.intro (H5.out.1.below hO6) (Old.trans H5.out.2 hO6))
  clear hen hE6 hO6 hel hn6
  go_wp2_with fail
  refine hdc.mono ?_
  rintro e w7 ⟨q, rfl, hq7, hqw, hO7⟩
  have h7 := H6.out.1.below hO7
  have hi := pis_any p _ w7 h7
  have hlk := locked_any p _ w7 h7
  have htr := tries_any p _ w7 h7
  have H7 := Lib.hid (And.intro hq7 (And.intro (show w.heap.size ≤ q from Nat.le_trans H6.out.2.size hqw) (Old.trans H6.out.2 hO7)))
  clear hdc hq7 hqw hO7 h7
  go_wp2_with fail
  refine hi.mono ?_
  rintro e w' ⟨rfl, rfl⟩
  go_wp2_with fail
  refine hlk.mono ?_
  rintro e w' ⟨rfl, rfl⟩
  go_wp2_with fail
  refine htr.mono ?_
  rintro e w' ⟨rfl, rfl⟩
  clear hi hlk htr
  go_wp2_with fail
  refine (check_any q ⟨true, salt, PH, 0⟩ _ 4 4 pin1 _ (PinAt.below H7.out.1 ((Old.refl w7).alloc _)) HE.out.2.2.2.2.1 (rd_const (w := w7) (fr := (4, 5)) pin1 (cs := #[.int .u8 49, .int .u8 50, .int .u8 51, .int .u8 52]) rfl 4 rfl (by unfold pin1; simp)) (by unfold pin1; simp) (HW.out.below (Old.alloc H7.out.2.2 _))).mono ?_
  rw [HE.out.2.2.2.1]
  rintro e w8 ⟨rfl, hp8, hT8⟩
  have hO8 : Old w w8 := below_turn (Old.alloc H7.out.2.2 _) hT8 (by have h1 := H7.out.2.1; simp; exact h1) (Old.alloc H7.out.2.2 _).size
  have H8 := Lib.hid hO8
  clear hp8 hT8 hO8
  go_wp2_with fail
  go_ret
  exact ⟨rfl, H8.out⟩
end Go.Proofs.YtdgjjmaiibafhaaDoor
