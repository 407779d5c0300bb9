/-
  'baileylaw5.AesField' returns true: products in the field of GHASH are the reference's, and commute. No condition.
-/
import Derived.Test.YtgkkafkdgmdihaaAesV
import Derived.Test.YtgkkafkdgmdihaaAesB
import Derived.Test.YtgkkafkdgmdihaaLift
import Derived.Test.YtgkkafkdgmdihaaShort
namespace Go.Proofs.Ytgkkafkdgmdihaa
open Go.RowKit

set_option maxRecDepth 100000 in
set_option maxHeartbeats 4000000 in
theorem field_any (A C D : Option Addr) (ma ca mb cb mc cc : Nat) (x y b : List UInt8) (w : World) (hx : Rd w A ma ca x) (hy : Rd w C mb cb y) (hb : Rd w D mc cc b) :
    Calls Try.prog 5 #[.slice A ma ca, .slice C mb cb, .slice D mc cc] w (LawRes w) := by
  have HS1 := Lib.hid (fun w' (h : Below w.heap.size w w') => short_any A ma ca 20 x w' (hx.below h) (by omega))
  have HS2 := Lib.hid (fun w' (h : Below w.heap.size w w') => short_any C mb cb 20 y w' (hy.below h) (by omega))
  have HS3 := Lib.hid (fun w' (h : Below w.heap.size w w') => short_any D mc cc 100 b w' (hb.below h) (by omega))
  have hxs := hx.short (n := 20)
  have hys := hy.short (n := 20)
  have hbs := hb.short (n := 100)
  obtain ⟨X', hX'⟩ : ∃ X', X' = x.take 20 := ⟨_, rfl⟩
  obtain ⟨Y', hY'⟩ : ∃ Y', Y' = y.take 20 := ⟨_, rfl⟩
  obtain ⟨B', hB'⟩ : ∃ B', B' = b.take 100 := ⟨_, rfl⟩
  have hbl : B'.length ≤ 100000 := by rw [hB', List.length_take]; omega
  rw [← hX'] at hxs
  rw [← hY'] at hys
  rw [← hB'] at hbs
  clear hX' hY' hB' hx hy hb
  generalize min ma 20 = mx at *
  generalize min mb 20 = my at *
  generalize min mc 100 = mz at *
  go_enter Try.func5, Try.ntmps5
  go_wp2_with fail
  refine (begun_any w).mono ?_
  rintro e w0 ⟨rfl, hb0⟩
  have HB0 := Lib.hid hb0
  clear hb0
  go_wp2_with fail
  refine (HS1.out w0 HB0.out).mono ?_
  rintro e w1 ⟨rfl, rfl⟩
  go_wp2_with fail
  refine (HS2.out w0 HB0.out).mono ?_
  rintro e w1 ⟨rfl, rfl⟩
  go_wp2_with fail
  refine (HS3.out w0 HB0.out).mono ?_
  rintro e w1 ⟨rfl, rfl⟩
  have hxs0 := hxs.below HB0.out
  have hys0 := hys.below HB0.out
  have hbs0 := hbs.below HB0.out
  have HX0 := Lib.hid (And.intro hxs0 (And.intro hys0 hbs0))
  clear HS1 HS2 HS3 hxs hys hbs hxs0 hys0 hbs0
  by_cases h16 : mx = 16
  · subst h16
    have hxi : ((16 : Int) != 16) = false := rfl
    by_cases hy16 : my = 16
    · subst hy16
      --BOTH
      go_wp2_with fail
      refine (gtimes_any _ _ _ _ X' Y' w0 HX0.out.1 HX0.out.2.1).mono ?_
      rintro e wt ⟨g1, c1, rfl, hop, hbt⟩
      have HP0 := Lib.hid (And.intro hop hbt)
      clear hop hbt
      go_wp2_with fail
      refine (gh_any _ _ _ _ _ X' B' wt (HX0.out.1.below HP0.out.2) (HX0.out.2.2.below HP0.out.2)).mono ?_
      rintro e wh ⟨g2, c2, rfl, hoh, hbh⟩
      have HG := Lib.hid (And.intro hoh hbh)
      have HWd := Lib.hid (HP0.out.2.trans (hbh.mono HP0.out.2.size))
      have HX := Lib.hid (And.intro HX0.out.1 (And.intro HX0.out.2.2 (And.intro HX0.out.2.1 hbl)))
      clear hoh hbh
      go_upto_region 7 with fail
      refine region_old (by kernel_rfl) (fun wd hHeld hSz => ?_)
      have HSz := Lib.hid hSz
      clear hSz
      refine takeL (i := 0) (v := ?_) rfl (by kernel_rfl) (by kernel_rfl) (by kernel_rfl) (fun _ _ _ h => h) (Or.inl ⟨by rfl, ?_⟩) hHeld ?_
      rotate_left
      focus (intro wq hSw; clear hSw; go_simp; try with_reducible rfl)
      try simp only [Act.put, List.setIfInBounds_toArray, List.set_cons_zero, List.set_cons_succ]
      refine takeL (i := 1) (v := ?_) rfl (by kernel_rfl) (by kernel_rfl) (by kernel_rfl) (fun _ _ _ h => h) (Or.inl ⟨by rfl, ?_⟩) hHeld ?_
      rotate_left
      focus (intro wq hSw; have hRun := HG.out.1.rd.str_below hSw; clear hSw; go_simp; try with_reducible rfl)
      try simp only [Act.put, List.setIfInBounds_toArray, List.set_cons_zero, List.set_cons_succ]
      refine takeL (i := 2) (v := ?_) rfl (by kernel_rfl) (by kernel_rfl) (by kernel_rfl) (fun _ _ _ h => h) (Or.inl ⟨by rfl, ?_⟩) hHeld ?_
      rotate_left
      focus (intro wq hSw; clear hSw; go_simp; try with_reducible rfl)
      try simp only [Act.put, List.setIfInBounds_toArray, List.set_cons_zero, List.set_cons_succ]
      refine takeL (i := 3) (v := ?_) rfl (by kernel_rfl) (by kernel_rfl) (by kernel_rfl) (fun _ _ _ h => h) (Or.inl ⟨by rfl, ?_⟩) hHeld ?_
      rotate_left
      focus (intro wq hSw; clear hSw; go_simp; try with_reducible rfl)
      try simp only [Act.put, List.setIfInBounds_toArray, List.set_cons_zero, List.set_cons_succ]
      refine wpAnyH_ready (rs := [4]) (by kernel_rfl) (by simp) ?_
      refine consL rfl (fun K hK => ?_) AllReadyH.nil
      go_simp
      refine (rgh_any _ _ _ _ _ X' B' wd (HX.out.1.below (HWd.out.trans (hHeld.mono HWd.out.size))) (HX.out.2.1.below (HWd.out.trans (hHeld.mono HWd.out.size))) HX.out.2.2.2).mono ?_
      rintro e wy ⟨g7, c7, rfl, ho7, hb7⟩
      rw [← gh_same X' B' HX.out.1.1.symm] at ho7
      have hHy : Old wh wy := Below.trans hHeld (hb7.mono hHeld.size)
      refine hK.out _ _ hHy (fun hHeld => ?_)
      clear hK K
      try simp only [Act.put, List.setIfInBounds_toArray, List.set_cons_zero, List.set_cons_succ]
      have HY := Lib.hid (And.intro ho7 hHy)
      clear ho7 hb7 hHy
      generalize gh X' B' = GH at *
      refine wpAnyH_old (w1 := wy) HY.out.2 (fun hHeld => ?_) (Old.refl wy)
      refine takeL (i := 5) (v := ?_) rfl (by kernel_rfl) (by kernel_rfl) (by kernel_rfl) (fun _ _ _ h => h) (Or.inl ⟨by rfl, ?_⟩) hHeld ?_
      rotate_left
      focus (intro wq hSw; have hRun := HY.out.1.rd.str_below hSw; clear hSw; go_simp; try with_reducible rfl)
      try simp only [Act.put, List.setIfInBounds_toArray, List.set_cons_zero, List.set_cons_succ]
      refine takeL (i := 6) (v := ?_) rfl (by kernel_rfl) (by kernel_rfl) (by kernel_rfl) (fun _ _ _ h => h) (Or.inl ⟨by rfl, ?_⟩) hHeld ?_
      rotate_left
      focus (intro wq hSw; clear hSw; go_simp; try with_reducible rfl)
      try simp only [Act.put, List.setIfInBounds_toArray, List.set_cons_zero, List.set_cons_succ]
      refine wpAnyH_done (by kernel_rfl) ?_ _
      refine NoPanic.normal ?_
      have HPy := Lib.hid (HG.out.2.trans (HY.out.2.mono HG.out.2.size))
      have HP := Lib.hid (And.intro HP0.out.1 True.intro)
      have hW0 : Below w0.heap.size w0 wy := HWd.out.trans (HY.out.2.mono HWd.out.size)
      have HXy := Lib.hid (And.intro (HX0.out.1.below hW0) (HX0.out.2.1.below hW0))
      have HFin := Lib.hid (HB0.out.trans (hW0.mono HB0.out.size))
      clear hW0 hHeld
      go_upto_region 11 with fail
      refine region_old (by kernel_rfl) (fun wd hHeld hSz => ?_)
      have HSz := Lib.hid hSz
      clear hSz
      refine takeL (i := 0) (v := ?_) rfl (by kernel_rfl) (by kernel_rfl) (by kernel_rfl) (fun _ _ _ h => h) (Or.inl ⟨by rfl, ?_⟩) hHeld ?_
      rotate_left
      focus (intro wq hSw; clear hSw; go_simp; try with_reducible rfl)
      try simp only [Act.put, List.setIfInBounds_toArray, List.set_cons_zero, List.set_cons_succ]
      refine takeL (i := 1) (v := ?_) rfl (by kernel_rfl) (by kernel_rfl) (by kernel_rfl) (fun _ _ _ h => h) (Or.inl ⟨by rfl, ?_⟩) hHeld ?_
      rotate_left
      focus (intro wq hSw; clear hSw; go_simp; try with_reducible rfl)
      try simp only [Act.put, List.setIfInBounds_toArray, List.set_cons_zero, List.set_cons_succ]
      refine takeL (i := 2) (v := ?_) rfl (by kernel_rfl) (by kernel_rfl) (by kernel_rfl) (fun _ _ _ h => h) (Or.inl ⟨by rfl, ?_⟩) hHeld ?_
      rotate_left
      focus (intro wq hSw; clear hSw; go_simp; try with_reducible rfl)
      try simp only [Act.put, List.setIfInBounds_toArray, List.set_cons_zero, List.set_cons_succ]
      refine takeL (i := 3) (v := ?_) rfl (by kernel_rfl) (by kernel_rfl) (by kernel_rfl) (fun _ _ _ h => h) (Or.inl ⟨by rfl, ?_⟩) hHeld ?_
      rotate_left
      focus (intro wq hSw; have hRun := (HP.out.1.rd.below HPy.out).str_below hSw; clear hSw; go_simp; try with_reducible rfl)
      try simp only [Act.put, List.setIfInBounds_toArray, List.set_cons_zero, List.set_cons_succ]
      refine takeL (i := 4) (v := ?_) rfl (by kernel_rfl) (by kernel_rfl) (by kernel_rfl) (fun _ _ _ h => h) (Or.inl ⟨by rfl, ?_⟩) hHeld ?_
      rotate_left
      focus (intro wq hSw; clear hSw; go_simp; try with_reducible rfl)
      try simp only [Act.put, List.setIfInBounds_toArray, List.set_cons_zero, List.set_cons_succ]
      refine takeL (i := 5) (v := ?_) rfl (by kernel_rfl) (by kernel_rfl) (by kernel_rfl) (fun _ _ _ h => h) (Or.inl ⟨by rfl, ?_⟩) hHeld ?_
      rotate_left
      focus (intro wq hSw; clear hSw; go_simp; try with_reducible rfl)
      try simp only [Act.put, List.setIfInBounds_toArray, List.set_cons_zero, List.set_cons_succ]
      refine wpAnyH_ready (rs := [6]) (by kernel_rfl) (by simp) ?_
      refine consL rfl (fun K hK => ?_) AllReadyH.nil
      go_simp
      refine (rgmul_any _ _ _ _ X' Y' wd (HXy.out.1.below hHeld) (HXy.out.2.below hHeld)).mono ?_
      rintro e wz ⟨g8, c8, rfl, ho8, hb8⟩
      rw [← gmul_rT X' Y' HXy.out.1.1.symm HXy.out.2.1.symm] at ho8
      have hHz : Old wy wz := Below.trans hHeld (hb8.mono hHeld.size)
      refine hK.out _ _ hHz (fun hHeld => ?_)
      clear hK K
      try simp only [Act.put, List.setIfInBounds_toArray, List.set_cons_zero, List.set_cons_succ]
      have HZ := Lib.hid (And.intro ho8 hHz)
      clear ho8 hb8 hHz
      refine wpAnyH_old (w1 := wz) HZ.out.2 (fun hHeld => ?_) (Old.refl wz)
      refine takeL (i := 7) (v := ?_) rfl (by kernel_rfl) (by kernel_rfl) (by kernel_rfl) (fun _ _ _ h => h) (Or.inl ⟨by rfl, ?_⟩) hHeld ?_
      rotate_left
      focus (intro wq hSw; have hRun := HZ.out.1.rd.str_below hSw; clear hSw; go_simp; try with_reducible rfl)
      try simp only [Act.put, List.setIfInBounds_toArray, List.set_cons_zero, List.set_cons_succ]
      refine takeL (i := 8) (v := ?_) rfl (by kernel_rfl) (by kernel_rfl) (by kernel_rfl) (fun _ _ _ h => h) (Or.inl ⟨by rfl, ?_⟩) hHeld ?_
      rotate_left
      focus (intro wq hSw; clear hSw; go_simp; try with_reducible rfl)
      try simp only [Act.put, List.setIfInBounds_toArray, List.set_cons_zero, List.set_cons_succ]
      refine takeL (i := 9) (v := ?_) rfl (by kernel_rfl) (by kernel_rfl) (by kernel_rfl) (fun _ _ _ h => h) (Or.inl ⟨by rfl, ?_⟩) hHeld ?_
      rotate_left
      focus (intro wq hSw; clear hSw; go_simp; try with_reducible rfl)
      try simp only [Act.put, List.setIfInBounds_toArray, List.set_cons_zero, List.set_cons_succ]
      refine takeL (i := 10) (v := ?_) rfl (by kernel_rfl) (by kernel_rfl) (by kernel_rfl) (fun _ _ _ h => h) (Or.inl ⟨by rfl, ?_⟩) hHeld ?_
      rotate_left
      focus (intro wq hSw; clear hSw; go_simp; try with_reducible rfl)
      try simp only [Act.put, List.setIfInBounds_toArray, List.set_cons_zero, List.set_cons_succ]
      refine takeL (i := 11) (v := ?_) rfl (by kernel_rfl) (by kernel_rfl) (by kernel_rfl) (fun _ _ _ h => h) (Or.inl ⟨by rfl, ?_⟩) hHeld ?_
      rotate_left
      focus (intro wq hSw; clear hSw; go_simp; try with_reducible rfl)
      try simp only [Act.put, List.setIfInBounds_toArray, List.set_cons_zero, List.set_cons_succ]
      refine takeL (i := 12) (v := ?_) rfl (by kernel_rfl) (by kernel_rfl) (by kernel_rfl) (fun _ _ _ h => h) (Or.inl ⟨by rfl, ?_⟩) hHeld ?_
      rotate_left
      focus (intro wq hSw; have hRun := ((HP.out.1.rd.below HPy.out).below HZ.out.2).str_below hSw; clear hSw; go_simp; try with_reducible rfl)
      try simp only [Act.put, List.setIfInBounds_toArray, List.set_cons_zero, List.set_cons_succ]
      refine takeL (i := 13) (v := ?_) rfl (by kernel_rfl) (by kernel_rfl) (by kernel_rfl) (fun _ _ _ h => h) (Or.inl ⟨by rfl, ?_⟩) hHeld ?_
      rotate_left
      focus (intro wq hSw; clear hSw; go_simp; try with_reducible rfl)
      try simp only [Act.put, List.setIfInBounds_toArray, List.set_cons_zero, List.set_cons_succ]
      refine takeL (i := 14) (v := ?_) rfl (by kernel_rfl) (by kernel_rfl) (by kernel_rfl) (fun _ _ _ h => h) (Or.inl ⟨by rfl, ?_⟩) hHeld ?_
      rotate_left
      focus (intro wq hSw; clear hSw; go_simp; try with_reducible rfl)
      try simp only [Act.put, List.setIfInBounds_toArray, List.set_cons_zero, List.set_cons_succ]
      refine wpAnyH_ready (rs := [15]) (by kernel_rfl) (by simp) ?_
      refine consL rfl (fun K hK => ?_) AllReadyH.nil
      go_simp
      refine (gtimes_any _ _ _ _ Y' X' wz ((HXy.out.2.below HZ.out.2)) ((HXy.out.1.below HZ.out.2))).mono ?_
      rintro e wu ⟨g9, c9, rfl, ho9, hb9⟩
      rw [gmul_comm Y' X'] at ho9
      have hHu : Old wz wu := hb9
      refine hK.out _ _ hHu (fun hHeld => ?_)
      clear hK K
      try simp only [Act.put, List.setIfInBounds_toArray, List.set_cons_zero, List.set_cons_succ]
      have HU := Lib.hid (And.intro ho9 hHu)
      clear ho9 hb9 hHu
      refine wpAnyH_old (w1 := wu) HU.out.2 (fun hHeld => ?_) (Old.refl wu)
      refine takeL (i := 16) (v := ?_) rfl (by kernel_rfl) (by kernel_rfl) (by kernel_rfl) (fun _ _ _ h => h) (Or.inl ⟨by rfl, ?_⟩) hHeld ?_
      rotate_left
      focus (intro wq hSw; have hRun := HU.out.1.rd.str_below hSw; clear hSw; go_simp; try with_reducible rfl)
      try simp only [Act.put, List.setIfInBounds_toArray, List.set_cons_zero, List.set_cons_succ]
      refine takeL (i := 17) (v := ?_) rfl (by kernel_rfl) (by kernel_rfl) (by kernel_rfl) (fun _ _ _ h => h) (Or.inl ⟨by rfl, ?_⟩) hHeld ?_
      rotate_left
      focus (intro wq hSw; clear hSw; go_simp; try with_reducible rfl)
      try simp only [Act.put, List.setIfInBounds_toArray, List.set_cons_zero, List.set_cons_succ]
      refine takeL (i := 18) (v := ?_) rfl (by kernel_rfl) (by kernel_rfl) (by kernel_rfl) (fun _ _ _ h => h) (Or.inl ⟨by rfl, ?_⟩) hHeld ?_
      rotate_left
      focus (intro wq hSw; clear hSw; go_simp; try with_reducible rfl)
      try simp only [Act.put, List.setIfInBounds_toArray, List.set_cons_zero, List.set_cons_succ]
      refine takeL (i := 19) (v := ?_) rfl (by kernel_rfl) (by kernel_rfl) (by kernel_rfl) (fun _ _ _ h => h) (Or.inl ⟨by rfl, ?_⟩) hHeld ?_
      rotate_left
      focus (intro wq hSw; clear hSw; go_simp; try with_reducible rfl)
      try simp only [Act.put, List.setIfInBounds_toArray, List.set_cons_zero, List.set_cons_succ]
      refine wpAnyH_done (by kernel_rfl) ?_ _
      refine NoPanic.normal ?_
      go_wp2_with fail
      go_ret
      exact ⟨rfl, HFin.out.trans (Below.mono (Old.trans HZ.out.2 HU.out.2) HFin.out.size)⟩
    · have hyi : ((my : Int) != 16) = true := by simp; omega
      have hyi' : ¬ (my : Int) = 16 := by omega
      go_wp2_with fail
      refine (gtimes_no _ _ _ _ _ _ w0 (.inr hy16)).mono ?_
      rintro e wt ⟨rfl, rfl⟩
      go_wp2_with fail
      refine (gh_any _ _ _ _ _ X' B' wt HX0.out.1 HX0.out.2.2).mono ?_
      rintro e wh ⟨g2, c2, rfl, hoh, hbh⟩
      have HG := Lib.hid (And.intro hoh hbh)
      have HWd := Lib.hid hbh
      have HX := Lib.hid (And.intro HX0.out.1 (And.intro HX0.out.2.2 (And.intro HX0.out.2.1 hbl)))
      clear hoh hbh
      go_upto_region 7 with fail
      refine region_old (by kernel_rfl) (fun wd hHeld hSz => ?_)
      have HSz := Lib.hid hSz
      clear hSz
      refine takeL (i := 0) (v := ?_) rfl (by kernel_rfl) (by kernel_rfl) (by kernel_rfl) (fun _ _ _ h => h) (Or.inl ⟨by rfl, ?_⟩) hHeld ?_
      rotate_left
      focus (intro wq hSw; clear hSw; go_simp; try with_reducible rfl)
      try simp only [Act.put, List.setIfInBounds_toArray, List.set_cons_zero, List.set_cons_succ]
      refine takeL (i := 1) (v := ?_) rfl (by kernel_rfl) (by kernel_rfl) (by kernel_rfl) (fun _ _ _ h => h) (Or.inl ⟨by rfl, ?_⟩) hHeld ?_
      rotate_left
      focus (intro wq hSw; have hRun := HG.out.1.rd.str_below hSw; clear hSw; go_simp; try with_reducible rfl)
      try simp only [Act.put, List.setIfInBounds_toArray, List.set_cons_zero, List.set_cons_succ]
      refine takeL (i := 2) (v := ?_) rfl (by kernel_rfl) (by kernel_rfl) (by kernel_rfl) (fun _ _ _ h => h) (Or.inl ⟨by rfl, ?_⟩) hHeld ?_
      rotate_left
      focus (intro wq hSw; clear hSw; go_simp; try with_reducible rfl)
      try simp only [Act.put, List.setIfInBounds_toArray, List.set_cons_zero, List.set_cons_succ]
      refine takeL (i := 3) (v := ?_) rfl (by kernel_rfl) (by kernel_rfl) (by kernel_rfl) (fun _ _ _ h => h) (Or.inl ⟨by rfl, ?_⟩) hHeld ?_
      rotate_left
      focus (intro wq hSw; clear hSw; go_simp; try with_reducible rfl)
      try simp only [Act.put, List.setIfInBounds_toArray, List.set_cons_zero, List.set_cons_succ]
      refine wpAnyH_ready (rs := [4]) (by kernel_rfl) (by simp) ?_
      refine consL rfl (fun K hK => ?_) AllReadyH.nil
      go_simp
      refine (rgh_any _ _ _ _ _ X' B' wd (HX.out.1.below (HWd.out.trans (hHeld.mono HWd.out.size))) (HX.out.2.1.below (HWd.out.trans (hHeld.mono HWd.out.size))) HX.out.2.2.2).mono ?_
      rintro e wy ⟨g7, c7, rfl, ho7, hb7⟩
      rw [← gh_same X' B' HX.out.1.1.symm] at ho7
      have hHy : Old wh wy := Below.trans hHeld (hb7.mono hHeld.size)
      refine hK.out _ _ hHy (fun hHeld => ?_)
      clear hK K
      try simp only [Act.put, List.setIfInBounds_toArray, List.set_cons_zero, List.set_cons_succ]
      have HY := Lib.hid (And.intro ho7 hHy)
      clear ho7 hb7 hHy
      generalize gh X' B' = GH at *
      refine wpAnyH_old (w1 := wy) HY.out.2 (fun hHeld => ?_) (Old.refl wy)
      refine takeL (i := 5) (v := ?_) rfl (by kernel_rfl) (by kernel_rfl) (by kernel_rfl) (fun _ _ _ h => h) (Or.inl ⟨by rfl, ?_⟩) hHeld ?_
      rotate_left
      focus (intro wq hSw; have hRun := HY.out.1.rd.str_below hSw; clear hSw; go_simp; try with_reducible rfl)
      try simp only [Act.put, List.setIfInBounds_toArray, List.set_cons_zero, List.set_cons_succ]
      refine takeL (i := 6) (v := ?_) rfl (by kernel_rfl) (by kernel_rfl) (by kernel_rfl) (fun _ _ _ h => h) (Or.inl ⟨by rfl, ?_⟩) hHeld ?_
      rotate_left
      focus (intro wq hSw; clear hSw; go_simp; try with_reducible rfl)
      try simp only [Act.put, List.setIfInBounds_toArray, List.set_cons_zero, List.set_cons_succ]
      refine wpAnyH_done (by kernel_rfl) ?_ _
      refine NoPanic.normal ?_
      have HFin := Lib.hid (HB0.out.trans ((HWd.out.trans (HY.out.2.mono HWd.out.size)).mono HB0.out.size))
      clear hHeld
      go_wp2_with fail
      go_ret
      exact ⟨rfl, HFin.out⟩
  · have hxi : ((mx : Int) != 16) = true := by simp; omega
    have hxi' : ¬ (mx : Int) = 16 := by omega
    go_wp2_with fail
    refine (gtimes_no _ _ _ _ _ _ w0 (.inl h16)).mono ?_
    rintro e wt ⟨rfl, rfl⟩
    go_wp2_with fail
    refine (gh_no _ _ _ _ _ _ wt h16).mono ?_
    rintro e wh ⟨rfl, rfl⟩
    go_wp2_with fail
    go_ret
    exact ⟨rfl, HB0.out⟩
end Go.Proofs.Ytgkkafkdgmdihaa
