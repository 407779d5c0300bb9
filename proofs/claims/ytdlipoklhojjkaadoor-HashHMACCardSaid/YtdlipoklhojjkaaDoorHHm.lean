/-
  The law HashHMAC, walked: HMAC is the reference's.
-/
import Derived.Test.YtdlipoklhojjkaaDoorBeg3
import Derived.Test.YtdlipoklhojjkaaDoorShort
import Derived.Test.YtdlipoklhojjkaaDoorRHmac
import Derived.Test.YtdlipoklhojjkaaDoorLift
namespace Go.Proofs.YtdlipoklhojjkaaDoor
open Go.RowKit

set_option maxHeartbeats 1000000 in
theorem hashHMAC_walk (kind : Int) (A : Option Addr) (m c : Nat) (l : List UInt8) (A2 : Option Addr) (m2 c2 : Nat) (l2 : List UInt8) (w : World) (hr : Rd w A m c l) (hr2 : Rd w A2 m2 c2 l2) (hK : KAt w) :
    Calls Tryd.prog 5 #[.int .i64 kind, .slice A m c, .slice A2 m2 c2] w (LawRes w) := by
  have HS := Lib.hid (fun w' hw => short_any A m c 200 l w' (hr.below (w' := w') hw) (by omega))
  have HS2 := Lib.hid (fun w' hw => short_any A2 m2 c2 200 l2 w' (hr2.below (w' := w') hw) (by omega))
  have hs := hr.short (n := 200)
  have hs2 := hr2.short (n := 200)
  have hm : min m 200 ≤ 200 := Nat.min_le_right _ _
  have hm2 : min m2 200 ≤ 200 := Nat.min_le_right _ _
  generalize min m 200 = n at *
  generalize min m2 200 = n2 at *
  generalize l.take 200 = key at *
  generalize l2.take 200 = b at *
  have hkl := hs.1
  have hbl := hs2.1
  have HH := Lib.hid (And.intro hs (And.intro hs2 (And.intro hK (And.intro hkl hbl))))
  clear hr hr2 hs hs2 hK hkl hbl
  go_enter Tryd.func5, Tryd.ntmps5
  go_wp2_with (go_at_call 11; refine (begun_any _ HH.out.2.2.1).mono ?_; rintro e wx ⟨rfl, hbx⟩; have HB := Lib.hid hbx; clear hbx)
  refine (HS.out _ HB.out).mono ?_
  rintro e w' ⟨rfl, rfl⟩
  go_wp2_with fail
  refine (HS2.out _ HB.out).mono ?_
  rintro e w' ⟨rfl, rfl⟩
  go_wp2_with fail
  have HX := Lib.hid (And.intro (HH.out.1.below HB.out) (And.intro (HH.out.2.1.below HB.out) (HH.out.2.2.1.below HB.out)))
  refine region_old (by kernel_rfl) (fun wd hHeld hSz => ?_)
  have HSz := Lib.hid hSz
  clear hSz
  refine takeL (i := 0) (v := ?_) rfl (by kernel_rfl) (by kernel_rfl) (by kernel_rfl) (fun _ _ _ h => h) (Or.inl ⟨by rfl, ?_⟩) hHeld ?_
  rotate_left
  focus (intro wq hSw; clear hSw; go_simp; try with_reducible rfl)
  try simp only [Act.put, List.setIfInBounds_toArray, List.set_cons_zero, List.set_cons_succ]
  refine takeL (i := 1) (v := ?_) rfl (by kernel_rfl) (by kernel_rfl) (by kernel_rfl) (fun _ _ _ h => h) (Or.inl ⟨by rfl, ?_⟩) hHeld ?_
  rotate_left
  focus (intro wq hSw; clear hSw; go_simp; try with_reducible rfl)
  try simp only [Act.put, List.setIfInBounds_toArray, List.set_cons_zero, List.set_cons_succ]
  refine takeL (i := 2) (v := ?_) rfl (by kernel_rfl) (by kernel_rfl) (by kernel_rfl) (fun _ _ _ h => h) (Or.inl ⟨by rfl, ?_⟩) hHeld ?_
  rotate_left
  focus (intro wq hSw; clear hSw; go_simp; try with_reducible rfl)
  try simp only [Act.put, List.setIfInBounds_toArray, List.set_cons_zero, List.set_cons_succ]
  refine takeL (i := 3) (v := ?_) rfl (by kernel_rfl) (by kernel_rfl) (by kernel_rfl) (fun _ _ _ h => h) (Or.inl ⟨by rfl, ?_⟩) hHeld ?_
  rotate_left
  focus (intro wq hSw; clear hSw; go_simp; try with_reducible rfl)
  try simp only [Act.put, List.setIfInBounds_toArray, List.set_cons_zero, List.set_cons_succ]
  refine takeL (i := 4) (v := ?_) rfl (by kernel_rfl) (by kernel_rfl) (by kernel_rfl) (fun _ _ _ h => h) (Or.inl ⟨by rfl, ?_⟩) hHeld ?_
  rotate_left
  focus (intro wq hSw; clear hSw; go_simp; try with_reducible rfl)
  try simp only [Act.put, List.setIfInBounds_toArray, List.set_cons_zero, List.set_cons_succ]
  refine takeL (i := 8) (v := ?_) rfl (by kernel_rfl) (by kernel_rfl) (by kernel_rfl) (fun _ _ _ h => h) (Or.inl ⟨by rfl, ?_⟩) hHeld ?_
  rotate_left
  focus (intro wq hSw; clear hSw; go_simp; try with_reducible rfl)
  try simp only [Act.put, List.setIfInBounds_toArray, List.set_cons_zero, List.set_cons_succ]
  refine takeL (i := 9) (v := ?_) rfl (by kernel_rfl) (by kernel_rfl) (by kernel_rfl) (fun _ _ _ h => h) (Or.inl ⟨by rfl, ?_⟩) hHeld ?_
  rotate_left
  focus (intro wq hSw; clear hSw; go_simp; try with_reducible rfl)
  try simp only [Act.put, List.setIfInBounds_toArray, List.set_cons_zero, List.set_cons_succ]
  refine takeL (i := 10) (v := ?_) rfl (by kernel_rfl) (by kernel_rfl) (by kernel_rfl) (fun _ _ _ h => h) (Or.inl ⟨by rfl, ?_⟩) hHeld ?_
  rotate_left
  focus (intro wq hSw; clear hSw; go_simp; try with_reducible rfl)
  try simp only [Act.put, List.setIfInBounds_toArray, List.set_cons_zero, List.set_cons_succ]
  refine wpAnyH_ready (rs := [5]) (by kernel_rfl) (by simp) ?_
  refine consL rfl (fun K hK => ?_) AllReadyH.nil
  go_simp
  refine hK.out _ _ (by repeat (first | exact hHeld | exact Old.refl _ | assumption | refine Old.drew ?_ | refine Old.drewN ?_ _ | refine Old.alloc ?_ _)) (fun hHeld => ?_)
  clear hK K
  try simp only [Act.put, List.setIfInBounds_toArray, List.set_cons_zero, List.set_cons_succ]
  refine wpAnyH_ready (rs := [6]) (by kernel_rfl) (by simp) ?_
  refine consL rfl (fun K hK => ?_) AllReadyH.nil
  go_simp
  have hblk := Blk.new wd 22 #[.slice A2 n2 c2]
  have hpp := rd_one hblk ((HX.out.2.1.below hHeld))
  refine (hmac_res_all kind A n c key _ 1 1 [b] _ (HX.out.1.below hHeld) (by have := HH.out.2.2.2.1; omega) hpp (by have := HH.out.2.2.2.2; simp; omega) (HX.out.2.2.below hHeld)).mono ?_
  rintro e w5 ⟨A5, n5, c5, rfl, hO5, hb5⟩
  rw [show ([b] : List (List UInt8)).flatten = b by simp] at hO5
  have hb5' : Old wx w5 := hHeld.trans hb5
  clear hblk hpp hb5
  refine hK.out _ _ hb5' (fun hHeld => ?_)
  clear hK K
  try simp only [Act.put, List.setIfInBounds_toArray, List.set_cons_zero, List.set_cons_succ]
  refine wpAnyH_old (w1 := w5) hb5' (fun hHeld => ?_) (Old.refl _)
  have hn5 := hO5.len
  generalize hrm : rhm kind key b = ll at *
  have Hrm := Lib.hid (And.intro hrm hn5)
  clear hrm hn5
  refine takeL (i := 7) (v := ?_) rfl (by kernel_rfl) (by kernel_rfl) (by kernel_rfl) (fun _ _ _ h => h) (Or.inl ⟨by rfl, ?_⟩) hHeld ?_
  rotate_left
  focus (intro wq hSw; have hRun := hO5.rd.str_below hSw; clear hSw; go_simp; try with_reducible rfl)
  try simp only [Act.put, List.setIfInBounds_toArray, List.set_cons_zero, List.set_cons_succ]
  refine wpAnyH_ready (rs := [11]) (by kernel_rfl) (by simp) ?_
  refine consL rfl (fun K hK => ?_) AllReadyH.nil
  go_simp
  refine (rhmac_res_all kind A n c key A2 n2 c2 b _ (HX.out.1.below hb5') (by have := HH.out.2.2.2.1; omega) (HX.out.2.1.below hb5') (by have := HH.out.2.2.2.2; omega)).mono ?_
  rintro e w6 ⟨A6, n6, c6, rfl, hO6, hb6⟩
  rw [Hrm.out.1] at hO6
  have hb6' : Old w5 w6 := hHeld.trans hb6
  refine hK.out _ _ hb6' (fun hHeld => ?_)
  clear hK K
  try simp only [Act.put, List.setIfInBounds_toArray, List.set_cons_zero, List.set_cons_succ]
  refine wpAnyH_old (w1 := w6) hb6' (fun hHeld => ?_) (Old.refl _)
  refine takeL (i := 12) (v := ?_) rfl (by kernel_rfl) (by kernel_rfl) (by kernel_rfl) (fun _ _ _ h => h) (Or.inl ⟨by rfl, ?_⟩) hHeld ?_
  rotate_left
  focus (intro wq hSw; have hRun := hO6.rd.str_below hSw; clear hSw; go_simp; try with_reducible rfl)
  try simp only [Act.put, List.setIfInBounds_toArray, List.set_cons_zero, List.set_cons_succ]
  refine takeL (i := 13) (v := ?_) rfl (by kernel_rfl) (by kernel_rfl) (by kernel_rfl) (fun _ _ _ h => h) (Or.inl ⟨by rfl, ?_⟩) hHeld ?_
  rotate_left
  focus (intro wq hSw; clear hSw; go_simp; try with_reducible rfl)
  try simp only [Act.put, List.setIfInBounds_toArray, List.set_cons_zero, List.set_cons_succ]
  refine takeL (i := 14) (v := ?_) rfl (by kernel_rfl) (by kernel_rfl) (by kernel_rfl) (fun _ _ _ h => h) (Or.inl ⟨by rfl, ?_⟩) hHeld ?_
  rotate_left
  focus (intro wq hSw; clear hSw; go_simp; try with_reducible rfl)
  try simp only [Act.put, List.setIfInBounds_toArray, List.set_cons_zero, List.set_cons_succ]
  refine takeL (i := 15) (v := ?_) rfl (by kernel_rfl) (by kernel_rfl) (by kernel_rfl) (fun _ _ _ h => h) (Or.inl ⟨by rfl, ?_⟩) hHeld ?_
  rotate_left
  focus (intro wq hSw; clear hSw; go_simp; try with_reducible rfl)
  try simp only [Act.put, List.setIfInBounds_toArray, List.set_cons_zero, List.set_cons_succ]
  refine wpAnyH_done (by kernel_rfl) ?_ _
  refine NoPanic.normal ?_
  simp only [Exit.then]
  go_wp2_with fail
  go_ret
  exact ⟨rfl, HB.out.trans (Below.mono (Old.trans hb5' hb6') HB.out.size)⟩
end Go.Proofs.YtdlipoklhojjkaaDoor
