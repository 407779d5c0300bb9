/-
  'baileylaw5.AesBack' returns true: decrypting undoes encrypting. No condition.
-/
import Derived.Test.YtgkkafkdgmdihaaAesB
import Derived.Test.YtgkkafkdgmdihaaAesQ
import Derived.Test.YtgkkafkdgmdihaaLift
namespace Go.Proofs.Ytgkkafkdgmdihaa
open Go.RowKit

set_option maxRecDepth 100000 in
theorem new_no (A : Option Addr) (m c : Nat) (w : World) (h : m ≠ 16 ∧ m ≠ 24 ∧ m ≠ 32) :
    Calls Try.prog 8 #[.slice A m c] w fun e w' => e = .returned (.pointer none) ∧ w' = w := by
  have h1 : ((m : Int) != 16) = true := by simp; omega
  have h2 : ((m : Int) != 24) = true := by simp; omega
  have h3 : ((m : Int) != 32) = true := by simp; omega
  have h1' : ¬ (m : Int) = 16 := by omega
  have h2' : ¬ (m : Int) = 24 := by omega
  have h3' : ¬ (m : Int) = 32 := by omega
  go_enter Try.func8, Try.ntmps8
  go_wp2
  go_ret
  exact ⟨rfl, rfl⟩
set_option maxRecDepth 100000 in
set_option maxHeartbeats 4000000 in
theorem back_any (A C : Option Addr) (ma ca mb cb : Nat) (k l : List UInt8) (w : World) (hk : Rd w A ma ca k) (hl : Rd w C mb cb l) :
    Calls Try.prog 4 #[.slice A ma ca, .slice C mb cb] w (LawRes w) := by
  by_cases hok : ma = 16 ∨ ma = 24 ∨ ma = 32
  · have hkl : k.length = 16 ∨ k.length = 24 ∨ k.length = 32 := by rw [← hk.1]; exact hok
    by_cases hb : mb = 16
    · --BOTH
      subst hb
      have hll := hl.1.symm
      go_enter Try.func4, Try.ntmps4
      go_wp2_with fail
      refine (begun_any w).mono ?_
      rintro e w0 ⟨rfl, hb0⟩
      have HB0 := Lib.hid hb0
      have hN := Lib.hid (new_any A ma ca k w0 (hk.below hb0) hkl)
      have hl0 := hl.below hb0
      clear hb0
      go_wp2_with fail
      refine hN.out.mono ?_
      rintro e w1 ⟨c, K, R, cq, rfl, hCip, hB1⟩
      have HB1 := Lib.hid (HB0.out.trans (hB1.mono HB0.out.size))
      have hrl := hl0.below hB1
      have hksl := hCip.2.2.2.2.2.1
      have hR11 := hCip.2.2.2.2.2.2.1
      have hde := dec_of_enc (rks k) R l hksl (by omega) hll
      have hed := enc_of_dec (rks k) R l hksl (by omega) hll
      generalize rks k = ks at *
      have HCip := Lib.hid hCip
      have Hrl := Lib.hid hrl
      have Hde := Lib.hid (And.intro hde hed)
      clear hB1 hN hksl hR11 hde hed hl0 hl hk hkl hCip hrl
      go_upto_region 5 with fail
      have hCip := HCip.out
      have hrl := Hrl.out
      have hde := Hde.out.1
      have hed := Hde.out.2
      refine region_old (by kernel_rfl) (fun wd hHeld hSz => ?_)
      have HSz := Lib.hid hSz
      clear hSz
      refine takeL (i := 0) (v := ?_) rfl (by kernel_rfl) (by kernel_rfl) (by kernel_rfl) (fun _ _ _ h => h) (Or.inl ⟨by rfl, ?_⟩) hHeld ?_
      rotate_left
      focus (intro wq hSw; clear hSw; go_simp; try with_reducible rfl)
      try simp only [Act.put, List.setIfInBounds_toArray, List.set_cons_zero, List.set_cons_succ]
      refine takeL (i := 1) (v := ?_) rfl (by kernel_rfl) (by kernel_rfl) (by kernel_rfl) (fun _ _ _ h => h) (Or.inl ⟨by rfl, ?_⟩) hHeld ?_
      rotate_left
      focus (intro wq hSw; clear hSw; go_simp; try with_reducible rfl)
      try simp only [Act.put, List.setIfInBounds_toArray, List.set_cons_zero, List.set_cons_succ]
      refine takeL (i := 2) (v := ?_) rfl (by kernel_rfl) (by kernel_rfl) (by kernel_rfl) (fun _ _ _ h => h) (Or.inl ⟨by rfl, ?_⟩) hHeld ?_
      rotate_left
      focus (intro wq hSw; clear hSw; go_simp; try with_reducible rfl)
      try simp only [Act.put, List.setIfInBounds_toArray, List.set_cons_zero, List.set_cons_succ]
      refine takeL (i := 3) (v := ?_) rfl (by kernel_rfl) (by kernel_rfl) (by kernel_rfl) (fun _ _ _ h => h) (Or.inl ⟨by rfl, ?_⟩) hHeld ?_
      rotate_left
      focus (intro wq hSw; clear hSw; go_simp; try with_reducible rfl)
      try simp only [Act.put, List.setIfInBounds_toArray, List.set_cons_zero, List.set_cons_succ]
      refine takeL (i := 4) (v := ?_) rfl (by kernel_rfl) (by kernel_rfl) (by kernel_rfl) (fun _ _ _ h => h) (Or.inl ⟨by rfl, ?_⟩) hHeld ?_
      rotate_left
      focus (intro wq hSw; clear hSw; go_simp; try with_reducible rfl)
      try simp only [Act.put, List.setIfInBounds_toArray, List.set_cons_zero, List.set_cons_succ]
      refine takeL (i := 8) (v := ?_) rfl (by kernel_rfl) (by kernel_rfl) (by kernel_rfl) (fun _ _ _ h => h) (Or.inl ⟨by rfl, ?_⟩) hHeld ?_
      rotate_left
      focus (intro wq hSw; clear hSw; go_simp; try with_reducible rfl)
      try simp only [Act.put, List.setIfInBounds_toArray, List.set_cons_zero, List.set_cons_succ]
      refine takeL (i := 9) (v := ?_) rfl (by kernel_rfl) (by kernel_rfl) (by kernel_rfl) (fun _ _ _ h => h) (Or.inl ⟨by rfl, ?_⟩) hHeld ?_
      rotate_left
      focus (intro wq hSw; have hRun := hrl.str_below hSw; clear hSw; go_simp; try with_reducible rfl)
      try simp only [Act.put, List.setIfInBounds_toArray, List.set_cons_zero, List.set_cons_succ]
      refine wpAnyH_ready (rs := [5]) (by kernel_rfl) (by simp) ?_
      refine consL rfl (fun K hK => ?_) AllReadyH.nil
      go_simp
      have hO1 := hHeld
      refine (enc_any _ _ _ _ _ _ _ _ l wd (hCip.below hHeld) (hrl.below hHeld)).mono ?_
      rintro e wx ⟨s1, rfl, hg1, hS1, hB1⟩
      have hHx : Old w1 wx := Below.trans hHeld (hB1.mono hHeld.size)
      refine hK.out _ _ hHx (fun hHeld => ?_)
      clear hK K
      try simp only [Act.put, List.setIfInBounds_toArray, List.set_cons_zero, List.set_cons_succ]
      have HX := Lib.hid (And.intro hS1 hHx)
      clear hS1 hB1 hg1 hO1
      refine wpAnyH_ready (rs := [6]) (by kernel_rfl) (by simp) ?_
      refine consL rfl (fun K hK => ?_) AllReadyH.nil
      go_simp
      refine (dec_any _ _ _ _ _ _ _ _ _ wx (hCip.below HX.out.2) HX.out.1.rd).mono ?_
      rintro e wy ⟨s2, rfl, hg2, hS2, hB2⟩
      have hHy : Old w1 wy := Below.trans HX.out.2 (hB2.mono HX.out.2.size)
      rw [hde] at hS2
      refine hK.out _ _ hHy (fun hHeld => ?_)
      clear hK K
      try simp only [Act.put, List.setIfInBounds_toArray, List.set_cons_zero, List.set_cons_succ]
      have HY := Lib.hid (And.intro hS2 hHy)
      clear hS2 hB2 hg2 hHx hHy
      refine wpAnyH_old (w1 := wy) HY.out.2 (fun hHeld => ?_) (Old.refl wy)
      refine takeL (i := 7) (v := ?_) rfl (by kernel_rfl) (by kernel_rfl) (by kernel_rfl) (fun _ _ _ h => h) (Or.inl ⟨by rfl, ?_⟩) hHeld ?_
      rotate_left
      focus (intro wq hSw; have hRun := HY.out.1.rd.str_below hSw; clear hSw; go_simp; try with_reducible rfl)
      try simp only [Act.put, List.setIfInBounds_toArray, List.set_cons_zero, List.set_cons_succ]
      refine takeL (i := 10) (v := ?_) rfl (by kernel_rfl) (by kernel_rfl) (by kernel_rfl) (fun _ _ _ h => h) (Or.inl ⟨by rfl, ?_⟩) hHeld ?_
      rotate_left
      focus (intro wq hSw; clear hSw; go_simp; try with_reducible rfl)
      try simp only [Act.put, List.setIfInBounds_toArray, List.set_cons_zero, List.set_cons_succ]
      refine takeL (i := 11) (v := ?_) rfl (by kernel_rfl) (by kernel_rfl) (by kernel_rfl) (fun _ _ _ h => h) (Or.inl ⟨by rfl, ?_⟩) hHeld ?_
      rotate_left
      focus (intro wq hSw; clear hSw; go_simp; try with_reducible rfl)
      try simp only [Act.put, List.setIfInBounds_toArray, List.set_cons_zero, List.set_cons_succ]
      refine takeL (i := 12) (v := ?_) rfl (by kernel_rfl) (by kernel_rfl) (by kernel_rfl) (fun _ _ _ h => h) (Or.inl ⟨by rfl, ?_⟩) hHeld ?_
      rotate_left
      focus (intro wq hSw; clear hSw; go_simp; try with_reducible rfl)
      try simp only [Act.put, List.setIfInBounds_toArray, List.set_cons_zero, List.set_cons_succ]
      refine takeL (i := 13) (v := ?_) rfl (by kernel_rfl) (by kernel_rfl) (by kernel_rfl) (fun _ _ _ h => h) (Or.inl ⟨by rfl, ?_⟩) hHeld ?_
      rotate_left
      focus (intro wq hSw; clear hSw; go_simp; try with_reducible rfl)
      try simp only [Act.put, List.setIfInBounds_toArray, List.set_cons_zero, List.set_cons_succ]
      refine takeL (i := 14) (v := ?_) rfl (by kernel_rfl) (by kernel_rfl) (by kernel_rfl) (fun _ _ _ h => h) (Or.inl ⟨by rfl, ?_⟩) hHeld ?_
      rotate_left
      focus (intro wq hSw; clear hSw; go_simp; try with_reducible rfl)
      try simp only [Act.put, List.setIfInBounds_toArray, List.set_cons_zero, List.set_cons_succ]
      refine takeL (i := 15) (v := ?_) rfl (by kernel_rfl) (by kernel_rfl) (by kernel_rfl) (fun _ _ _ h => h) (Or.inl ⟨by rfl, ?_⟩) hHeld ?_
      rotate_left
      focus (intro wq hSw; clear hSw; go_simp; try with_reducible rfl)
      try simp only [Act.put, List.setIfInBounds_toArray, List.set_cons_zero, List.set_cons_succ]
      refine takeL (i := 19) (v := ?_) rfl (by kernel_rfl) (by kernel_rfl) (by kernel_rfl) (fun _ _ _ h => h) (Or.inl ⟨by rfl, ?_⟩) hHeld ?_
      rotate_left
      focus (intro wq hSw; clear hSw; go_simp; try with_reducible rfl)
      try simp only [Act.put, List.setIfInBounds_toArray, List.set_cons_zero, List.set_cons_succ]
      refine takeL (i := 20) (v := ?_) rfl (by kernel_rfl) (by kernel_rfl) (by kernel_rfl) (fun _ _ _ h => h) (Or.inl ⟨by rfl, ?_⟩) hHeld ?_
      rotate_left
      focus (intro wq hSw; have hRun := (hrl.below HY.out.2).str_below hSw; clear hSw; go_simp; try with_reducible rfl)
      try simp only [Act.put, List.setIfInBounds_toArray, List.set_cons_zero, List.set_cons_succ]
      refine wpAnyH_ready (rs := [16]) (by kernel_rfl) (by simp) ?_
      refine consL rfl (fun K hK => ?_) AllReadyH.nil
      go_simp
      refine (dec_any _ _ _ _ _ _ _ _ l wy (hCip.below HY.out.2) (hrl.below HY.out.2)).mono ?_
      rintro e wz ⟨s3, rfl, hg3, hS3, hB3⟩
      have hHz : Old wy wz := hB3
      refine hK.out _ _ hHz (fun hHeld => ?_)
      clear hK K
      try simp only [Act.put, List.setIfInBounds_toArray, List.set_cons_zero, List.set_cons_succ]
      have HZ := Lib.hid (And.intro hS3 hHz)
      clear hS3 hB3 hg3
      refine wpAnyH_ready (rs := [17]) (by kernel_rfl) (by simp) ?_
      refine consL rfl (fun K hK => ?_) AllReadyH.nil
      go_simp
      refine (enc_any _ _ _ _ _ _ _ _ _ wz ((hCip.below HY.out.2).below HZ.out.2) HZ.out.1.rd).mono ?_
      rintro e wu ⟨s4, rfl, hg4, hS4, hB4⟩
      have hHu : Old wy wu := Below.trans HZ.out.2 (hB4.mono HZ.out.2.size)
      rw [hed] at hS4
      refine hK.out _ _ hHu (fun hHeld => ?_)
      clear hK K
      try simp only [Act.put, List.setIfInBounds_toArray, List.set_cons_zero, List.set_cons_succ]
      have HU := Lib.hid (And.intro hS4 hHu)
      clear hS4 hB4 hg4 hHz hHu
      refine wpAnyH_old (w1 := wu) HU.out.2 (fun hHeld => ?_) (Old.refl wu)
      refine takeL (i := 18) (v := ?_) rfl (by kernel_rfl) (by kernel_rfl) (by kernel_rfl) (fun _ _ _ h => h) (Or.inl ⟨by rfl, ?_⟩) hHeld ?_
      rotate_left
      focus (intro wq hSw; have hRun := HU.out.1.rd.str_below hSw; clear hSw; go_simp; try with_reducible rfl)
      try simp only [Act.put, List.setIfInBounds_toArray, List.set_cons_zero, List.set_cons_succ]
      refine takeL (i := 21) (v := ?_) rfl (by kernel_rfl) (by kernel_rfl) (by kernel_rfl) (fun _ _ _ h => h) (Or.inl ⟨by rfl, ?_⟩) hHeld ?_
      rotate_left
      focus (intro wq hSw; clear hSw; go_simp; try with_reducible rfl)
      try simp only [Act.put, List.setIfInBounds_toArray, List.set_cons_zero, List.set_cons_succ]
      refine takeL (i := 22) (v := ?_) rfl (by kernel_rfl) (by kernel_rfl) (by kernel_rfl) (fun _ _ _ h => h) (Or.inl ⟨by rfl, ?_⟩) hHeld ?_
      rotate_left
      focus (intro wq hSw; clear hSw; go_simp; try with_reducible rfl)
      try simp only [Act.put, List.setIfInBounds_toArray, List.set_cons_zero, List.set_cons_succ]
      refine takeL (i := 23) (v := ?_) rfl (by kernel_rfl) (by kernel_rfl) (by kernel_rfl) (fun _ _ _ h => h) (Or.inl ⟨by rfl, ?_⟩) hHeld ?_
      rotate_left
      focus (intro wq hSw; clear hSw; go_simp; try with_reducible rfl)
      try simp only [Act.put, List.setIfInBounds_toArray, List.set_cons_zero, List.set_cons_succ]
      refine wpAnyH_done (by kernel_rfl) ?_ _
      refine NoPanic.normal ?_
      go_wp2_with fail
      go_ret
      exact ⟨rfl, HB1.out.trans (Below.mono (Old.trans HY.out.2 HU.out.2) HB1.out.size)⟩
    · have hb1 : ((mb : Int) != 16) = true := by simp; omega
      go_enter Try.func4, Try.ntmps4
      go_wp2_with fail
      refine (begun_any w).mono ?_
      rintro e w0 ⟨rfl, hb0⟩
      have HB0 := Lib.hid hb0
      have hN := Lib.hid (new_any A ma ca k w0 (hk.below hb0) hkl)
      clear hb0
      go_wp2_with fail
      refine hN.out.mono ?_
      rintro e w1 ⟨c, K, R, cq, rfl, hCip, hB1⟩
      have HB1 := Lib.hid (HB0.out.trans (hB1.mono HB0.out.size))
      clear hB1 hCip
      go_wp2_with fail
      go_ret
      exact ⟨rfl, HB1.out⟩
  · go_enter Try.func4, Try.ntmps4
    go_wp2_with fail
    refine (begun_any w).mono ?_
    rintro e w0 ⟨rfl, hb0⟩
    have HB0 := Lib.hid hb0
    clear hb0
    go_wp2_with fail
    refine (new_no A ma ca w0 (by omega)).mono ?_
    rintro e w1 ⟨rfl, rfl⟩
    go_wp2_with fail
    go_ret
    exact ⟨rfl, HB0.out⟩
end Go.Proofs.Ytgkkafkdgmdihaa
