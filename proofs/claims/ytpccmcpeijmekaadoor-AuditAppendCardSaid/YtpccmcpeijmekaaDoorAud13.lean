/-
  The law AuditAppend, walked: lines are added as the reference says; the log is taken whole.
-/
import Derived.Test.YtpccmcpeijmekaaDoorAud12
namespace Go.Proofs.YtpccmcpeijmekaaDoor
open Go.RowKit

set_option maxRecDepth 100000 in
set_option maxHeartbeats 2000000 in
theorem auditAppend_walk (A : Option Addr) (m c : Nat) (es : List RawE) (w : World) (he : EntsAt w A m es) (hm : m ≤ maxLen) (hK : KAt w) :
    Calls Tryd.prog 3 #[.slice A m c] w (LawRes w) := by
  have HH := Lib.hid (And.intro he hK)
  have hmi : (m : Int) ≤ 9223372036854775807 := by unfold maxLen at hm; omega
  clear he hK hm
  go_enter Tryd.func3, Tryd.ntmps3
  go_wp2_with (go_at_call 6; refine (begun_any _ HH.out.2).mono ?_; rintro e wx ⟨rfl, hbx⟩; have HB := Lib.hid hbx; clear hbx)
  go_loopw [4, 5, 6] (fun v n i wr => ∃ (j n1 c1 : Nat) (A1 : Option Addr), j ≤ m ∧ j ≤ 12 ∧ i = .int .i64 (j : Nat) ∧ n = .int .i64 ((okOf (es.take j)).length : Nat) ∧ v = .slice A1 n1 c1 ∧ Own wr wx.heap.size (.slice A1 n1 c1) (logTo es j) ∧ Below wx.heap.size wx wr) (fun _ _ i _ => 12 - (intOf i).toNat)
  case atStart => exact ⟨0, 0, 0, none, by omega, by omega, rfl, rfl, rfl, Own.nil _ _, Below.refl _ _⟩
  case round =>
    obtain ⟨j, n1, c1, A1, hj1, hj2, rfl, rfl, rfl, hO, hB⟩ := hrel
    have hn1 := hO.len
    rw [logTo_len] at hn1
    have hok := okTo_len es j
    obtain ⟨q, hq⟩ : ∃ q, (okOf (es.take j)).length = q := ⟨_, rfl⟩
    rw [hq] at hn1 hok
    have H1 := Lib.hid (And.intro hO (And.intro hB (And.intro hn1 (And.intro hok (And.intro hj1 (And.intro hj2 hq))))))
    have hqi : (q : Int) ≤ 12 := by omega
    rw [hq]
    have hwr : Old w wr := Old.trans HB.out hB
    have HO := Lib.hid hwr
    clear hO hB hn1 hq hwr
    by_cases hlt : j < m ∧ j < 12
    · obtain ⟨hl1, hl2⟩ := hlt
      have hi1 : (j : Int) < m := by omega
      have hi2 : (j : Int) < 12 := by omega
      have hj0 : (0 : Int) ≤ j := by omega
      obtain ⟨hpl, hz0 | ⟨b, off, rfl, hbl, hrow⟩⟩ := HH.out.1
      · omega
      obtain ⟨e, hee⟩ : ∃ e, es[j]? = some e := ⟨_, List.getElem?_eq_getElem (by omega)⟩
      have hra := hrow j e hee
      obtain ⟨r0, r1, r2, r3, r4⟩ := hra.old hbl HO.out
      have HE := Lib.hid (And.intro hee (And.intro hl1 (And.intro hl2 (And.intro hra hbl))))
      clear hrow hee hl1 hl2 hok hj1 hj2 hpl hra
      by_cases hk : okE e.t e.f e.r e.l
      · go_wp2_with (first
          | (go_at_call 7; refine (append_raw A1 n1 c1 q (logTo es j) e wr H1.out.1.rd (by have := H1.out.2.2.1; omega) (by have := H1.out.2.2.1; have := H1.out.2.2.2.1; have := H1.out.2.2.2.2.2.1; omega) hk (HH.out.2.below HO.out)).mono ?_; rintro en w2 ⟨A2, n2, c2, rfl, hO2, hb2⟩; rw [← logTo_yes es j e HE.out.1 hk] at hO2; obtain ⟨s0, s1, s2, s3, s4⟩ := HE.out.2.2.2.1.old HE.out.2.2.2.2 (Old.trans HO.out hb2); clear r0 r1 r2 r3 r4; have X2 := Lib.hid (And.intro hO2 hb2); clear hO2 hb2)
          | (go_at_call 8; refine (rappend_raw A1 n1 c1 q (logTo es j) e w2 (H1.out.1.rd.below X2.out.2) (by have := H1.out.2.2.1; omega) (by have := H1.out.2.2.1; have := H1.out.2.2.2.1; have := H1.out.2.2.2.2.2.1; omega) hk).mono ?_; rintro en w3 ⟨A3, n3, c3, rfl, hO3, hb3⟩; rw [← logTo_yes es j e HE.out.1 hk] at hO3; have g1 := (X2.out.1.rd.below hb3).str; have g2 := hO3.rd.str; have X3 := Lib.hid (And.intro (X2.out.1.below hb3) (Old.trans X2.out.2 hb3)); clear hO3 hb3 s0 s1 s2 s3 s4))
        go_roundw
        case rel =>
          refine ⟨j + 1, n2, c2, A2, HE.out.2.1, HE.out.2.2.1, by go_num, ?_, rfl, X3.out.1.mono H1.out.2.1.size, H1.out.2.1.trans (Below.mono X3.out.2 H1.out.2.1.size)⟩
          rw [okOf_snoc es j e HE.out.1, if_pos hk, List.length_append, H1.out.2.2.2.2.2.2]
          go_num
        case measure => have := HE.out.2.2.1; simp [intOf]; omega
      · have hnil := fun w => toStr_nil w 0 0
        go_wp2_with (first
          | (go_at_call 7; refine (append_no (.int .i64 0) A1 n1 c1 q e.s e.t e.f e.r e.l wr (by have := H1.out.2.2.1; omega) (by have := H1.out.2.2.1; have := H1.out.2.2.2.1; have := H1.out.2.2.2.2.2.1; omega) hk).mono ?_; rintro en w2 ⟨rfl, hb2⟩; obtain ⟨s0, s1, s2, s3, s4⟩ := HE.out.2.2.2.1.old HE.out.2.2.2.2 (Old.trans HO.out hb2); clear r0 r1 r2 r3 r4; have X2 := Lib.hid hb2; clear hb2)
          | (go_at_call 8; refine (rappend_no (.int .i64 0) A1 n1 c1 q e.s e.t e.f e.r e.l w2 (by have := H1.out.2.2.1; omega) (by have := H1.out.2.2.1; have := H1.out.2.2.2.1; have := H1.out.2.2.2.2.2.1; omega) hk).mono ?_; rintro en w3 ⟨rfl, hb3⟩; have X3 := Lib.hid (Old.trans X2.out hb3); clear hb3 s0 s1 s2 s3 s4))
        go_roundw
        case rel =>
          refine ⟨j + 1, n1, c1, A1, HE.out.2.1, HE.out.2.2.1, by go_num, ?_, rfl, by rw [logTo_no es j e HE.out.1 hk]; exact H1.out.1.below X3.out, H1.out.2.1.trans (Below.mono X3.out H1.out.2.1.size)⟩
          rw [okOf_snoc es j e HE.out.1, if_neg hk, List.append_nil, H1.out.2.2.2.2.2.2]
        case measure => have := HE.out.2.2.1; simp [intOf]; omega
    · have hlt' : ((j : Int) < m ∧ ¬ ((j : Int) < 12)) ∨ ¬ ((j : Int) < m) := by omega
      have hg := chain_good (okOf (es.take j)) (okOf_ok _) (by have := okTo_len es j; omega)
      have hrt := chain_rightTo (okOf (es.take j)) (okOf_ok _) (by have := okTo_len es j; omega)
      rw [H1.out.2.2.2.2.2.2] at hg hrt
      have HG := Lib.hid (And.intro hg hrt)
      clear hlt hj1 hj2 hg hrt hok
      rcases hlt' with ⟨hx1, hx2⟩ | hx1
      all_goals
        go_wp2_with (go_at_call 9; refine (check_at A1 n1 c1 q q (logTo es j) wr H1.out.1.rd HG.out.1 (by omega) HG.out.2 (HH.out.2.below HO.out)).mono ?_; rintro en w5 ⟨rfl, hb5⟩; have X5 := Lib.hid (And.intro (H1.out.1.below hb5) (Old.trans H1.out.2.1 hb5)); clear hb5)
        refine region_old (by kernel_rfl) (fun wd hHeld hSz => ?_)
        have HSz := Lib.hid hSz
        clear hSz
        refine takeL (i := 0) (v := ?_) rfl (by kernel_rfl) (by kernel_rfl) (by kernel_rfl) (fun _ _ _ h => h) (Or.inl ⟨by rfl, ?_⟩) hHeld ?_
        rotate_left
        focus (intro wq hSw; clear hSw; go_simp; try with_reducible rfl)
        try simp only [Act.put, List.setIfInBounds_toArray, List.set_cons_zero, List.set_cons_succ]
        refine takeL (i := 1) (v := ?_) rfl (by kernel_rfl) (by kernel_rfl) (by kernel_rfl) (fun _ _ _ h => h) (Or.inl ⟨by rfl, ?_⟩) hHeld ?_
        rotate_left
        focus (intro wq hSw; clear hSw; go_simp; try with_reducible rfl)
        try simp only [Act.put, List.setIfInBounds_toArray, List.set_cons_zero, List.set_cons_succ]
        refine takeL (i := 2) (v := ?_) rfl (by kernel_rfl) (by kernel_rfl) (by kernel_rfl) (fun _ _ _ h => h) (Or.inl ⟨by rfl, ?_⟩) hHeld ?_
        rotate_left
        focus (intro wq hSw; clear hSw; go_simp; try with_reducible rfl)
        try simp only [Act.put, List.setIfInBounds_toArray, List.set_cons_zero, List.set_cons_succ]
        refine takeL (i := 3) (v := ?_) rfl (by kernel_rfl) (by kernel_rfl) (by kernel_rfl) (fun _ _ _ h => h) (Or.inl ⟨by rfl, ?_⟩) hHeld ?_
        rotate_left
        focus (intro wq hSw; clear hSw; go_simp; try with_reducible rfl)
        try simp only [Act.put, List.setIfInBounds_toArray, List.set_cons_zero, List.set_cons_succ]
        refine takeL (i := 4) (v := ?_) rfl (by kernel_rfl) (by kernel_rfl) (by kernel_rfl) (fun _ _ _ h => h) (Or.inl ⟨by rfl, ?_⟩) hHeld ?_
        rotate_left
        focus (intro wq hSw; clear hSw; go_simp; try with_reducible rfl)
        try simp only [Act.put, List.setIfInBounds_toArray, List.set_cons_zero, List.set_cons_succ]
        refine takeL (i := 5) (v := ?_) rfl (by kernel_rfl) (by kernel_rfl) (by kernel_rfl) (fun _ _ _ h => h) (Or.inl ⟨by rfl, ?_⟩) hHeld ?_
        rotate_left
        focus (intro wq hSw; clear hSw; go_simp; try with_reducible rfl)
        try simp only [Act.put, List.setIfInBounds_toArray, List.set_cons_zero, List.set_cons_succ]
        refine takeL (i := 6) (v := ?_) rfl (by kernel_rfl) (by kernel_rfl) (by kernel_rfl) (fun _ _ _ h => h) (Or.inl ⟨by rfl, ?_⟩) hHeld ?_
        rotate_left
        focus (intro wq hSw; clear hSw; go_simp; try with_reducible rfl)
        try simp only [Act.put, List.setIfInBounds_toArray, List.set_cons_zero, List.set_cons_succ]
        refine takeL (i := 7) (v := ?_) rfl (by kernel_rfl) (by kernel_rfl) (by kernel_rfl) (fun _ _ _ h => h) (Or.inl ⟨by rfl, ?_⟩) hHeld ?_
        rotate_left
        focus (intro wq hSw; clear hSw; go_simp; try with_reducible rfl)
        try simp only [Act.put, List.setIfInBounds_toArray, List.set_cons_zero, List.set_cons_succ]
        refine takeL (i := 8) (v := ?_) rfl (by kernel_rfl) (by kernel_rfl) (by kernel_rfl) (fun _ _ _ h => h) (Or.inl ⟨by rfl, ?_⟩) hHeld ?_
        rotate_left
        focus (intro wq hSw; clear hSw; go_simp; try with_reducible rfl)
        try simp only [Act.put, List.setIfInBounds_toArray, List.set_cons_zero, List.set_cons_succ]
        refine takeL (i := 9) (v := ?_) rfl (by kernel_rfl) (by kernel_rfl) (by kernel_rfl) (fun _ _ _ h => h) (Or.inl ⟨by rfl, ?_⟩) hHeld ?_
        rotate_left
        focus (intro wq hSw; clear hSw; go_simp; try with_reducible rfl)
        try simp only [Act.put, List.setIfInBounds_toArray, List.set_cons_zero, List.set_cons_succ]
        refine takeL (i := 10) (v := ?_) rfl (by kernel_rfl) (by kernel_rfl) (by kernel_rfl) (fun _ _ _ h => h) (Or.inl ⟨by rfl, ?_⟩) hHeld ?_
        rotate_left
        focus (intro wq hSw; clear hSw; go_simp; try with_reducible rfl)
        try simp only [Act.put, List.setIfInBounds_toArray, List.set_cons_zero, List.set_cons_succ]
        refine takeL (i := 12) (v := ?_) rfl (by kernel_rfl) (by kernel_rfl) (by kernel_rfl) (fun _ _ _ h => h) (Or.inl ⟨by rfl, ?_⟩) hHeld ?_
        rotate_left
        focus (intro wq hSw; clear hSw; go_simp; try with_reducible rfl)
        try simp only [Act.put, List.setIfInBounds_toArray, List.set_cons_zero, List.set_cons_succ]
        refine wpAnyH_ready (rs := [11]) (by kernel_rfl) (by simp) ?_
        refine consL rfl (fun K hK => ?_) AllReadyH.nil
        go_simp
        refine (seq_q A1 n1 c1 q _ (by have := H1.out.2.2.1; omega) (by have := H1.out.2.2.1; omega)).mono ?_
        rintro en w' ⟨rfl, rfl⟩
        refine hK.out _ _ (by repeat (first | exact hHeld | exact Old.refl _ | assumption | refine Old.drew ?_ | refine Old.drewN ?_ _ | refine Old.alloc ?_ _)) (fun hHeld => ?_)
        clear hK K
        try simp only [Act.put, List.setIfInBounds_toArray, List.set_cons_zero, List.set_cons_succ]
        refine takeL (i := 13) (v := ?_) rfl (by kernel_rfl) (by kernel_rfl) (by kernel_rfl) (fun _ _ _ h => h) (Or.inl ⟨by rfl, ?_⟩) hHeld ?_
        rotate_left
        focus (intro wq hSw; clear hSw; go_simp; try with_reducible rfl)
        try simp only [Act.put, List.setIfInBounds_toArray, List.set_cons_zero, List.set_cons_succ]
        refine takeL (i := 14) (v := ?_) rfl (by kernel_rfl) (by kernel_rfl) (by kernel_rfl) (fun _ _ _ h => h) (Or.inl ⟨by rfl, ?_⟩) hHeld ?_
        rotate_left
        focus (intro wq hSw; clear hSw; go_simp; try with_reducible rfl)
        try simp only [Act.put, List.setIfInBounds_toArray, List.set_cons_zero, List.set_cons_succ]
        refine takeL (i := 15) (v := ?_) rfl (by kernel_rfl) (by kernel_rfl) (by kernel_rfl) (fun _ _ _ h => h) (Or.inl ⟨by rfl, ?_⟩) hHeld ?_
        rotate_left
        focus (intro wq hSw; clear hSw; go_simp; try with_reducible rfl)
        try simp only [Act.put, List.setIfInBounds_toArray, List.set_cons_zero, List.set_cons_succ]
        refine takeL (i := 16) (v := ?_) rfl (by kernel_rfl) (by kernel_rfl) (by kernel_rfl) (fun _ _ _ h => h) (Or.inl ⟨by rfl, ?_⟩) hHeld ?_
        rotate_left
        focus (intro wq hSw; clear hSw; go_simp; try with_reducible rfl)
        try simp only [Act.put, List.setIfInBounds_toArray, List.set_cons_zero, List.set_cons_succ]
        refine takeL (i := 19) (v := ?_) rfl (by kernel_rfl) (by kernel_rfl) (by kernel_rfl) (fun _ _ _ h => h) (Or.inl ⟨by rfl, ?_⟩) hHeld ?_
        rotate_left
        focus (intro wq hSw; clear hSw; go_simp; try with_reducible rfl)
        try simp only [Act.put, List.setIfInBounds_toArray, List.set_cons_zero, List.set_cons_succ]
        refine wpAnyH_ready (rs := [17]) (by kernel_rfl) (by simp) ?_
        refine consL rfl (fun K hK => ?_) AllReadyH.nil
        go_simp
        refine (head_any A1 n1 c1 (logTo es j) _ (X5.out.1.rd.below hHeld) (by have := H1.out.2.2.1; omega)).mono ?_
        rintro en w6 ⟨A6, n6, c6, rfl, hO6, hb6⟩
        have hr6 := hO6.rd
        have hb6' : Old w5 w6 := hHeld.trans hb6
        clear hb6 hO6
        refine hK.out _ _ hb6' (fun hHeld => ?_)
        clear hK K
        try simp only [Act.put, List.setIfInBounds_toArray, List.set_cons_zero, List.set_cons_succ]
        refine wpAnyH_old (w1 := w6) hb6' (fun hHeld => ?_) (Old.refl _)
        refine takeL (i := 18) (v := ?_) rfl (by kernel_rfl) (by kernel_rfl) (by kernel_rfl) (fun _ _ _ h => h) (Or.inl ⟨by rfl, ?_⟩) hHeld ?_
        rotate_left
        focus (intro wq hSw; have hRun := hr6.str_below hSw; clear hSw; go_simp; try with_reducible rfl)
        try simp only [Act.put, List.setIfInBounds_toArray, List.set_cons_zero, List.set_cons_succ]
        refine wpAnyH_ready (rs := [20]) (by kernel_rfl) (by simp) ?_
        refine consL rfl (fun K hK => ?_) AllReadyH.nil
        go_simp
        refine (rhead_any A1 n1 c1 q (logTo es j) _ (X5.out.1.rd.below (Old.trans hb6' hHeld)) (by have := H1.out.2.2.1; omega) (by have := H1.out.2.2.1; omega)).mono ?_
        rintro en w7 ⟨A7, n7, c7, rfl, hO7, hb7⟩
        have hr7 := hO7.rd
        have hb7' : Old w6 w7 := hHeld.trans hb7
        clear hb7 hO7
        refine hK.out _ _ hb7' (fun hHeld => ?_)
        clear hK K
        try simp only [Act.put, List.setIfInBounds_toArray, List.set_cons_zero, List.set_cons_succ]
        refine wpAnyH_old (w1 := w7) hb7' (fun hHeld => ?_) (Old.refl _)
        refine takeL (i := 21) (v := ?_) rfl (by kernel_rfl) (by kernel_rfl) (by kernel_rfl) (fun _ _ _ h => h) (Or.inl ⟨by rfl, ?_⟩) hHeld ?_
        rotate_left
        focus (intro wq hSw; have hRun := hr7.str_below hSw; clear hSw; go_simp; try with_reducible rfl)
        try simp only [Act.put, List.setIfInBounds_toArray, List.set_cons_zero, List.set_cons_succ]
        refine takeL (i := 22) (v := ?_) rfl (by kernel_rfl) (by kernel_rfl) (by kernel_rfl) (fun _ _ _ h => h) (Or.inl ⟨by rfl, ?_⟩) hHeld ?_
        rotate_left
        focus (intro wq hSw; clear hSw; go_simp; try with_reducible rfl)
        try simp only [Act.put, List.setIfInBounds_toArray, List.set_cons_zero, List.set_cons_succ]
        refine takeL (i := 23) (v := ?_) rfl (by kernel_rfl) (by kernel_rfl) (by kernel_rfl) (fun _ _ _ h => h) (Or.inl ⟨by rfl, ?_⟩) hHeld ?_
        rotate_left
        focus (intro wq hSw; clear hSw; go_simp; try with_reducible rfl)
        try simp only [Act.put, List.setIfInBounds_toArray, List.set_cons_zero, List.set_cons_succ]
        refine takeL (i := 24) (v := ?_) rfl (by kernel_rfl) (by kernel_rfl) (by kernel_rfl) (fun _ _ _ h => h) (Or.inl ⟨by rfl, ?_⟩) hHeld ?_
        rotate_left
        focus (intro wq hSw; clear hSw; go_simp; try with_reducible rfl)
        try simp only [Act.put, List.setIfInBounds_toArray, List.set_cons_zero, List.set_cons_succ]
        refine wpAnyH_done (by kernel_rfl) ?_ _
        refine NoPanic.normal ?_
        simp only [Exit.then]
        go_wp2_with fail
        go_ret
        exact ⟨rfl, Old.trans HB.out (Old.trans X5.out.2 (Old.trans hb6' hb7'))⟩
end Go.Proofs.YtpccmcpeijmekaaDoor
