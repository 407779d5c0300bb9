/-
  pins: the law PinNone, walked.
-/
import Derived.Test.YtdgjjmaiibafhaaDoorPin6
namespace Go.Proofs.YtdgjjmaiibafhaaDoor
set_option maxRecDepth 100000
open Go.RowKit

theorem put_no (A : Option Addr) (m c : Nat) (v : Value) (w : World) : Calls Tryd.prog 14 #[.pointer none, .slice A m c, v] w fun e w' => e = .returned (.int .i64 7) ∧ w = w' := by
  go_enter Tryd.func14, Tryd.ntmps14
  go_wp2_with fail
  go_ret
  exact ⟨rfl, rfl⟩
theorem put_nod (p : Nat) (A : Option Addr) (m c : Nat) (w : World) : Calls Tryd.prog 14 #[.pointer (some ⟨p, 0, none⟩), .slice A m c, .pointer none] w fun e w' => e = .returned (.int .i64 7) ∧ w = w' := by
  have k1 := nePin
  go_enter Tryd.func14, Tryd.ntmps14
  go_wp2_with fail
  go_ret
  exact ⟨rfl, rfl⟩
theorem check_no (A : Option Addr) (m c : Nat) (w : World) : Calls Tryd.prog 16 #[.pointer none, .slice A m c] w fun e w' => e = .returned (.int .i64 258) ∧ w = w' := by
  have h := is_no w
  go_enter Tryd.func16, Tryd.ntmps16
  go_wp2_with fail
  refine h.mono ?_
  rintro e w' ⟨rfl, rfl⟩
  go_wp2_with fail
  go_ret
  exact ⟨rfl, rfl⟩
theorem enc_no (w : World) : Calls Tryd.prog 9 #[.pointer none] w fun e w' => ∃ g, e = .returned (.slice (some ⟨g, 0, none⟩) 1 1) ∧ Old w w' := by
  have h := is_no w
  go_enter Tryd.func9, Tryd.ntmps9
  go_wp2_with fail
  refine h.mono ?_
  rintro e w' ⟨rfl, rfl⟩
  go_wp2_with fail
  go_ret
  exact ⟨_, rfl, (Old.refl _).alloc _⟩
def pin3 : List UInt8 := [49, 50, 51]
theorem put_short (s : PS) (ds : DS) : s.put ds pin3 = (0xa2, s, ds) := by
  unfold PS.put
  rw [if_pos (by unfold pin3; simp)]
set_option maxHeartbeats 2000000 in
theorem pinNone_any (w : World) (hK : KAt w) : Calls Tryd.prog 5 #[] w fun e w' => e = .returned (.bool true) ∧ Below w.heap.size w w' := by
  have HW := Lib.hid hK
  have hc := clear_no w
  have hn := pnew_any w
  have kc := fun (w : World) (C : Array Value) (n c : Nat) => Lib.run_convert_bytes_const (P := Tryd.prog) w 22 5 C n c Tryd.underlying22 Tryd.underlying5
  clear hK
  go_enter Tryd.func5, Tryd.ntmps5
  go_wp2_with fail
  refine hc.mono ?_
  rintro e w' ⟨rfl, rfl⟩
  clear hc
  go_wp2_with fail
  refine hn.mono ?_
  rintro e w1 ⟨p, rfl, hp1, hpw, hO1⟩
  have H1 := Lib.hid (And.intro hp1 (And.intro hpw hO1))
  clear hn hp1 hpw hO1
  go_wp2_with fail
  refine (begun21_any w1 (HW.out.below H1.out.2.2)).mono ?_
  rintro e w2 ⟨rfl, hO2⟩
  have H2 := Lib.hid (And.intro (H1.out.1.below hO2) (Old.trans H1.out.2.2 hO2))
  clear hO2
  go_wp2_with fail
  refine (drnew_any none 0 0 [] _ (Rd.nil _) (by simp) (HW.out.below (Old.alloc H2.out.2 _))).mono ?_
  rintro e w3 ⟨d, rfl, _, _, hO3⟩
  have H3 := Lib.hid (And.intro (H2.out.1.below (Old.trans ((Old.refl w2).alloc _) hO3)) (Old.trans (Old.alloc H2.out.2 _) hO3))
  clear hO3
  go_wp2_with fail
  refine (put_no _ _ _ _ _).mono ?_
  rintro e w' ⟨rfl, rfl⟩
  go_wp2_with fail
  refine (check_no _ _ _ _).mono ?_
  rintro e w' ⟨rfl, rfl⟩
  go_wp2_with fail
  refine (is_no _).mono ?_
  rintro e w' ⟨rfl, rfl⟩
  go_wp2_with fail
  refine (locked_no _).mono ?_
  rintro e w' ⟨rfl, rfl⟩
  go_wp2_with fail
  refine (tries_no _).mono ?_
  rintro e w' ⟨rfl, rfl⟩
  go_wp2_with fail
  refine (enc_no _).mono ?_
  rintro e w4 ⟨g4, rfl, hO4⟩
  have H4 := Lib.hid (And.intro (H3.out.1.below hO4) (Old.trans H3.out.2 hO4))
  clear hO4
  go_wp2_with fail
  refine (put_nod _ _ _ _ _).mono ?_
  rintro e w5 ⟨rfl, hw5⟩
  have hO5 : Old w4 w5 := by rw [← hw5]; exact (Old.refl w4).alloc _
  have H5 := Lib.hid (And.intro (H4.out.1.below hO5) (Old.trans H4.out.2 hO5))
  clear hO5 hw5
  go_wp2_with fail
  refine (drnew_any none 0 0 [] _ (Rd.nil _) (by simp) (HW.out.below (Old.alloc H5.out.2 _))).mono ?_
  rintro e w6 ⟨d2, rfl, hD6, hdw, hO6⟩
  have r6 := (rd_const (w := w5) (fr := (3, 4)) pin3 (cs := #[.int .u8 49, .int .u8 50, .int .u8 51]) rfl 3 rfl (by unfold pin3; simp)).below hO6
  have hD2' : d2 ≠ 1 := by have h1 := HW.out.1; have h2 := H5.out.2.size; simp at hdw; omega
  have hpk : p ≠ 1 := by have h1 := HW.out.1; have h2 := H1.out.2.1; omega
  have hpt := put_any p d2 PS.none (DS.new []) 0 (some ⟨w5.heap.size, 0, none⟩) 3 3 pin3 w6 (H5.out.1.below (Old.trans ((Old.refl w5).alloc _) hO6)) hD6 r6 (by omega) (by omega) (HW.out.below (Old.trans (Old.alloc H5.out.2 _) hO6)) hD2' hpk
  rw [put_short] at hpt
  have H6 := Lib.hid (And.intro (Old.trans (Old.alloc H5.out.2 _) hO6) hdw)
  clear hD6 hdw hO6 r6 hD2' hpk
  go_wp2_with fail
  refine hpt.mono ?_
  rintro e w7 ⟨left', hl1, hl2, rfl, _, _, hT7⟩
  have hO7 : Old w w7 := below_turn H6.out.1 hT7 (by have h1 := H1.out.2.1; have h2 := H6.out.2; have h3 := H5.out.2.size; simp at h2 ⊢; omega) H6.out.1.size
  have H7 := Lib.hid hO7
  clear hpt hT7 hO7 hl1 hl2
  go_wp2_with fail
  go_ret
  exact ⟨rfl, H7.out⟩
end Go.Proofs.YtdgjjmaiibafhaaDoor
