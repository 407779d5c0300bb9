/-
  Pad, the document: OAEP is read.
-/
import Derived.Test.YtddemlajfbagdaaDoorZzPr6
namespace Go.Proofs.YtddemlajfbagdaaDoor
set_option maxRecDepth 100000
open Go.RowKit

theorem zs_succ (k : Nat) : zs (k + 1) = zs k ++ [0] := List.replicate_succ' ..
set_option maxHeartbeats 16000000 in
theorem rdeco_any (kind : Int) (A1 A3 : Option Addr) (m1 c1 m3 c3 : Nat) (label em : List UInt8) (w : World) (h1 : Rd w A1 m1 c1 label) (h3 : Rd w A3 m3 c3 em) (hm1 : m1 ≤ 1000) (hm3 : m3 ≤ 1000) :
    Calls Tryd.prog 19 #[.int .i64 kind, .slice A1 m1 c1, .slice A3 m3 c3] w (PRes w (decOF kind label em)) := by
  obtain ⟨h, hh⟩ : ∃ h, hsize kind = h := ⟨_, rfl⟩
  have hsz := rsize_any kind w
  have h64 := hsize_64 kind
  have hin := hsize_in kind
  have hl1 := h1.1
  have hl3 := h3.1
  unfold decOF
  rw [← hl3]
  rw [hh] at hsz h64 hin ⊢
  have HS := Lib.hid hsz
  clear hsz
  by_cases d1 : h = 0
  · rw [if_pos d1]
    subst d1
    clear h64 hh hin h1 h3 hl1 hl3
    go_enter Tryd.func19, Tryd.ntmps19
    go_wp2_with fail
    refine HS.out.mono ?_
    rintro e w' ⟨rfl, rfl⟩
    go_wp2_with fail
    refine bodyPost_ret (results_tmp2 rfl _ _ _) rfl ?_
    exact ⟨none, 0, 0, rfl, Rd.nil _, Old.refl _⟩
  · rw [if_neg d1]
    have b1 : (h == 0) = false := by simpa using d1
    obtain ⟨N, rfl⟩ := Int.eq_ofNat_of_zero_le h64.1
    obtain ⟨q, hq⟩ : ∃ q, 2 * (N : Int) = q := ⟨_, rfl⟩
    have hqw : IntKind.i64.wrap q = q := IntWalk.i64_in _ (by omega)
    obtain ⟨q2, hq2⟩ : ∃ q2, q + 2 = q2 := ⟨_, rfl⟩
    have hq2w : IntKind.i64.wrap q2 = q2 := IntWalk.i64_in _ (by omega)
    rw [hq, hq2, Int.toNat_natCast]
    by_cases d2 : (m3 : Int) < q2
    · rw [if_pos (.inl d2)]
      have b2 : decide ((m3 : Int) < q2) = true := decide_eq_true d2
      clear h64 hh hin h1 h3 hl1 hl3
      go_enter Tryd.func19, Tryd.ntmps19
      go_wp2_with fail
      refine HS.out.mono ?_
      rintro e w' ⟨rfl, rfl⟩
      go_wp2_with fail
      refine bodyPost_ret (results_tmp2 rfl _ _ _) rfl ?_
      exact ⟨none, 0, 0, rfl, Rd.nil _, Old.refl _⟩
    · have b2 : decide ((m3 : Int) < q2) = false := decide_eq_false d2
      obtain ⟨r, hr⟩ : ∃ r, (m3 : Int) - (N : Int) = r := ⟨_, rfl⟩
      have hrw : IntKind.i64.wrap r = r := IntWalk.i64_in _ (by omega)
      obtain ⟨r2, hr2⟩ : ∃ r2, r - 1 = r2 := ⟨_, rfl⟩
      have hr2w : IntKind.i64.wrap r2 = r2 := IntWalk.i64_in _ (by omega)
      have b3i : ¬ (m3 : Int) > 65536 := by omega
      have b3 : decide ((m3 : Int) > 65536) = false := decide_eq_false b3i
      have h0m : 0 < m3 := by omega
      obtain ⟨x0, hx0⟩ : ∃ x, em[0]? = some x := ⟨_, List.getElem?_eq_getElem (by omega)⟩
      have hg0 : em.getD 0 0 = x0 := by rw [List.getD_eq_getElem?_getD, hx0]; rfl
      obtain ⟨be, oe, rfl, hat⟩ := h3.addr h0m
      have ye := hat.2 0 x0 hx0
      rw [Nat.add_zero] at ye
      clear hat
      rw [hg0]
      by_cases d4 : x0 = 0
      · rw [if_neg (fun hx => hx.elim d2 (fun hx => hx d4))]
        have b4 : isN x0 0 = true := by rw [d4]; rfl
        have hki := hin d1
        have hmN : 2 * N + 2 ≤ m3 := by omega
        have hN1 : 1 ≤ N := by omega
        have hN64 : N ≤ 64 := by omega
        obtain ⟨p, hp⟩ : ∃ p, N + 1 = p := ⟨_, rfl⟩
        have hpi : (1 : Int) + (N : Int) = (p : Int) := by omega
        have hpw : IntKind.i64.wrap (p : Int) = (p : Int) := IntWalk.i64_in _ (by omega)
        obtain ⟨A4, n4, c4, hn4, hS4, hR4, _⟩ := h3.cut_ex2 (k := p) (by omega)
        obtain ⟨A5, c5, hS5, hR5⟩ := h3.cut_mid (k := 1) (j := p) (d := N) (by omega) (by omega)
        rw [show ((1 : Nat) : Int) = 1 from rfl] at hS5
        obtain ⟨X, hX⟩ : ∃ X, em.drop p = X := ⟨_, rfl⟩
        obtain ⟨Y, hY⟩ : ∃ Y, (em.drop 1).take N = Y := ⟨_, rfl⟩
        rw [hX] at hR4
        rw [hY] at hR5
        have hXl := hR4.1
        have hYl := hR5.1
        obtain ⟨SD, hSD⟩ : ∃ S, xorB Y (mask kind X N) = S := ⟨_, rfl⟩
        have hSl : SD.length = N := by rw [← hSD, xorB_len _ _ (by rw [mask_len kind hki X (by omega)]; omega)]; exact hYl.symm
        obtain ⟨DB, hDB⟩ : ∃ S, xorB X (mask kind SD n4) = S := ⟨_, rfl⟩
        have hDl : DB.length = n4 := by rw [← hDB, xorB_len _ _ (by rw [mask_len kind hki SD (by omega)]; omega)]; exact hXl.symm
        have hdec : decDb N (mask kind) em = DB := by
          unfold decDb
          rw [show 1 + N = p by omega, hX, hY, hSD, ← hXl, hDB]

        have hn4N : N ≤ n4 := by omega
        have hn4b : n4 ≤ 1000 := by omega
        have hml1 := mask_len kind hki X (by omega) N
        have hml2 := mask_len kind hki SD (by omega) n4
        have hmg1 := fun W (hr : Rd W A4 n4 c4 X) => rmgf1_all kind (N : Int) A4 n4 c4 X W hr (by omega)
        rw [show maskAll kind X (N : Int) = mask kind X N by unfold maskAll; rw [if_pos ⟨hki, by omega, by omega⟩, Int.toNat_natCast]] at hmg1
        have hmg2 := fun A c W (hr : Rd W A N c SD) => rmgf1_all kind (n4 : Int) A N c SD W hr (by omega)
        rw [show maskAll kind SD (n4 : Int) = mask kind SD n4 by unfold maskAll; rw [if_pos ⟨hki, by omega, by omega⟩, Int.toNat_natCast]] at hmg2
        unfold decO
        rw [hdec]
        have hof := fun W (hr : Rd W A1 m1 c1 label) => rof_res_all kind A1 m1 c1 label W hr (by omega)
        obtain ⟨LH, hLH⟩ : ∃ L, rof kind label = L := ⟨_, rfl⟩
        simp only [hLH] at hof
        rw [hLH]
        obtain ⟨M1, hM1⟩ : ∃ M, mask kind X N = M := ⟨_, rfl⟩
        obtain ⟨M2, hM2⟩ : ∃ M, mask kind SD n4 = M := ⟨_, rfl⟩
        rw [hM1] at hml1 hmg1 hSD
        simp only [hM2] at hml2 hmg2 hDB
        have HH := Lib.hid (And.intro h1 (And.intro hR4 (And.intro hR5 (And.intro hmg1 (And.intro hmg2 (And.intro hof (And.intro hDl (And.intro hn4N (And.intro hn4b (And.intro hml1 (And.intro hml2 (And.intro hSD hDB))))))))))))
        clear h1 hR4 hR5 hmg1 hmg2 hof hDl hn4N hn4b hn4 hXl hYl hdec hSl hLH hDB hSD hX hY h3 hl1 hl3 h64 hin hh hm1 hki hmN hN1 hN64 hp hg0 hx0 d4 hml1 hml2 hM1 hM2
        obtain ⟨RS, hRS⟩ : ∃ R, (match (if DB.take N = LH then (match trimZ (DB.drop N) with | [] => none | x :: r => if x = 1 then some r else none) else none) with | none => ([], 64) | some m => (m, 0) : List UInt8 × Int) = R := ⟨_, rfl⟩
        show Calls _ _ _ _ (PRes w (match (if DB.take N = LH then (match trimZ (DB.drop N) with | [] => none | x :: r => if x = 1 then some r else none) else none) with | none => ([], 64) | some m => (m, 0) : List UInt8 × Int))
        rw [hRS]
        have hA1 : DB.take N ≠ LH → RS = ([], 64) := fun e => by rw [← hRS, if_neg e]
        have hA2 : ∀ k x r, DB.take N = LH → DB.drop N = zs k ++ x :: r → x ≠ 0 → x ≠ 1 → RS = ([], 64) := fun k x r e h e1 e2 => by
          rw [← hRS, if_pos e, h]
          unfold zs
          rw [trimZ_zeros, trimZ_stop (x :: r) x rfl e1]
          simp only [if_neg e2]
        have hA3 : ∀ k r, DB.take N = LH → DB.drop N = zs k ++ 1 :: r → RS = (r, 0) := fun k r e h => by
          rw [← hRS, if_pos e, h]
          unfold zs
          rw [trimZ_zeros, trimZ_one]
          rfl
        have hA4 : ∀ k, DB.take N = LH → DB.drop N = zs k → RS = ([], 64) := fun k e h => by
          rw [← hRS, if_pos e, h]
          unfold zs
          have := trimZ_zeros k []
          rw [List.append_nil] at this
          rw [this]
          rfl
        clear hRS
        have HA := Lib.hid (And.intro hA1 (And.intro hA2 (And.intro hA3 hA4)))
        clear hA1 hA2 hA3 hA4
        go_enter Tryd.func19, Tryd.ntmps19
        go_wp2_with fail
        refine HS.out.mono ?_
        rintro e w' ⟨rfl, rfl⟩
        go_wp2_with fail
        refine region_old (by kernel_rfl) (fun wd hHeld hSz => ?_)
        have HSz := Lib.hid hSz
        clear hSz
        refine takeL (i := 0) (v := ?_) rfl (by kernel_rfl) (by kernel_rfl) (by kernel_rfl) (fun _ _ _ h => h) (Or.inl ⟨by rfl, ?_⟩) hHeld ?_
        rotate_left
        focus (intro wq hSw; clear hSw; go_simp; try with_reducible rfl)
        try simp only [Act.put, List.setIfInBounds_toArray, List.set_cons_zero, List.set_cons_succ]
        refine takeL (i := 1) (v := ?_) rfl (by kernel_rfl) (by kernel_rfl) (by kernel_rfl) (fun _ _ _ h => h) (Or.inl ⟨by rfl, ?_⟩) hHeld ?_
        rotate_left
        focus (intro wq hSw; clear hSw; go_simp; try with_reducible rfl)
        try simp only [Act.put, List.setIfInBounds_toArray, List.set_cons_zero, List.set_cons_succ]
        refine takeL (i := 2) (v := ?_) rfl (by kernel_rfl) (by kernel_rfl) (by kernel_rfl) (fun _ _ _ h => h) (Or.inl ⟨by rfl, ?_⟩) hHeld ?_
        rotate_left
        focus (intro wq hSw; clear hSw; go_simp; try with_reducible rfl)
        try simp only [Act.put, List.setIfInBounds_toArray, List.set_cons_zero, List.set_cons_succ]
        refine takeL (i := 3) (v := ?_) rfl (by kernel_rfl) (by kernel_rfl) (by kernel_rfl) (fun _ _ _ h => h) (Or.inl ⟨by rfl, ?_⟩) hHeld ?_
        rotate_left
        focus (intro wq hSw; have hRun := hS5 wq; clear hSw; go_simp; try with_reducible rfl)
        try simp only [Act.put, List.setIfInBounds_toArray, List.set_cons_zero, List.set_cons_succ]
        refine takeL (i := 4) (v := ?_) rfl (by kernel_rfl) (by kernel_rfl) (by kernel_rfl) (fun _ _ _ h => h) (Or.inl ⟨by rfl, ?_⟩) hHeld ?_
        rotate_left
        focus (intro wq hSw; clear hSw; go_simp; try with_reducible rfl)
        try simp only [Act.put, List.setIfInBounds_toArray, List.set_cons_zero, List.set_cons_succ]
        refine takeL (i := 5) (v := ?_) rfl (by kernel_rfl) (by kernel_rfl) (by kernel_rfl) (fun _ _ _ h => h) (Or.inl ⟨by rfl, ?_⟩) hHeld ?_
        rotate_left
        focus (intro wq hSw; clear hSw; go_simp; try with_reducible rfl)
        try simp only [Act.put, List.setIfInBounds_toArray, List.set_cons_zero, List.set_cons_succ]
        refine takeL (i := 6) (v := ?_) rfl (by kernel_rfl) (by kernel_rfl) (by kernel_rfl) (fun _ _ _ h => h) (Or.inl ⟨by rfl, ?_⟩) hHeld ?_
        rotate_left
        focus (intro wq hSw; clear hSw; go_simp; try with_reducible rfl)
        try simp only [Act.put, List.setIfInBounds_toArray, List.set_cons_zero, List.set_cons_succ]
        refine wpAnyH_ready (rs := [7]) (by kernel_rfl) (by simp) ?_
        refine consL rfl (fun K hK => ?_) AllReadyH.nil
        go_simp
        refine (HH.out.2.2.2.1 _ (HH.out.2.1.below hHeld)).mono ?_
        rintro e w0 ⟨A6, n6, c6, rfl, hR6, hB6⟩
        have hb0 : Old w w0 := Old.trans hHeld hB6
        clear hB6
        refine hK.out _ _ hb0 (fun hHeld => ?_)
        clear hK K
        try simp only [Act.put, List.setIfInBounds_toArray, List.set_cons_zero, List.set_cons_succ]
        refine wpAnyH_old (w1 := w0) hb0 (fun hHeld => ?_) (Old.refl _)
        refine wpAnyH_ready (rs := [8]) (by kernel_rfl) (by simp) ?_
        refine consL rfl (fun K hK => ?_) AllReadyH.nil
        go_simp
        refine (rxor8_any A5 A6 N c5 n6 c6 Y M1 w0 (HH.out.2.2.1.below hb0) hR6 (by rw [hR6.1, HH.out.2.2.2.2.2.2.2.2.2.1]; exact Nat.le_refl _) (by have := HH.out.2.2.2.2.2.2.2.1; have := HH.out.2.2.2.2.2.2.2.2.1; omega)).mono ?_
        rintro e w1 ⟨rfl, hR8, hB8⟩
        have hb1 : Old w w1 := Old.trans hb0 hB8
        rw [HH.out.2.2.2.2.2.2.2.2.2.2.2.1] at hR8
        have hR6 := hR8
        refine hK.out _ _ hB8 (fun hHeld => ?_)
        clear hK K
        try simp only [Act.put, List.setIfInBounds_toArray, List.set_cons_zero, List.set_cons_succ]
        refine wpAnyH_old (w1 := w1) hB8 (fun hHeld => ?_) (Old.refl _)
        refine takeL (i := 9) (v := ?_) rfl (by kernel_rfl) (by kernel_rfl) (by kernel_rfl) (fun _ _ _ h => h) (Or.inl ⟨by rfl, ?_⟩) hHeld ?_
        rotate_left
        focus (intro wq hSw; clear hSw; go_simp; try with_reducible rfl)
        try simp only [Act.put, List.setIfInBounds_toArray, List.set_cons_zero, List.set_cons_succ]
        refine wpAnyH_done (by kernel_rfl) ?_ _
        refine NoPanic.normal ?_
        clear hR8 hB8 hb0
        simp only [Exit.then]
        clear hHeld HSz
        have H1 := Lib.hid (And.intro hR6 hb1)
        clear hR6 hb1
        go_wp2_with fail
        refine (HH.out.2.2.2.2.1 _ _ w1 H1.out.1.rd).mono ?_
        rintro e w2 ⟨A7, n7, c7, rfl, hR7, hB7⟩
        have H2 := Lib.hid (And.intro hR7 (show Old w w2 from Old.trans H1.out.2 hB7))
        clear hR7 hB7
        go_wp2_with fail
        refine (rxor8_any A4 A7 n4 c4 n7 c7 X M2 w2 (HH.out.2.1.below H2.out.2) H2.out.1 (by rw [H2.out.1.1, HH.out.2.2.2.2.2.2.2.2.2.2.1]; exact Nat.le_refl _) (by have := HH.out.2.2.2.2.2.2.2.2.1; omega)).mono ?_
        rintro e w3 ⟨rfl, hO3, hB3⟩
        obtain ⟨g, hg⟩ : ∃ g, w2.heap.size = g := ⟨_, rfl⟩
        rw [HH.out.2.2.2.2.2.2.2.2.2.2.2.2, hg] at hO3
        rw [hg] at hB3 ⊢
        obtain ⟨hS9, hR9⟩ := hO3.rd.cut_to (k := N) HH.out.2.2.2.2.2.2.2.1
        have H3 := Lib.hid (And.intro hO3.rd (And.intro hR9 (show Old w w3 from Old.trans H2.out.2 (by show Below w2.heap.size w2 w3; rw [hg]; exact hB3))))
        clear hO3 hB3 hR9 hg
        go_wp2_with fail
        refine region_old (by kernel_rfl) (fun wd hHeld hSz => ?_)
        have HSz := Lib.hid hSz
        clear hSz
        refine takeL (i := 0) (v := ?_) rfl (by kernel_rfl) (by kernel_rfl) (by kernel_rfl) (fun _ _ _ h => h) (Or.inl ⟨by rfl, ?_⟩) hHeld ?_
        rotate_left
        focus (intro wq hSw; clear hSw; go_simp; try with_reducible rfl)
        try simp only [Act.put, List.setIfInBounds_toArray, List.set_cons_zero, List.set_cons_succ]
        refine takeL (i := 1) (v := ?_) rfl (by kernel_rfl) (by kernel_rfl) (by kernel_rfl) (fun _ _ _ h => h) (Or.inl ⟨by rfl, ?_⟩) hHeld ?_
        rotate_left
        focus (intro wq hSw; clear hSw; go_simp; try with_reducible rfl)
        try simp only [Act.put, List.setIfInBounds_toArray, List.set_cons_zero, List.set_cons_succ]
        refine takeL (i := 2) (v := ?_) rfl (by kernel_rfl) (by kernel_rfl) (by kernel_rfl) (fun _ _ _ h => h) (Or.inl ⟨by rfl, ?_⟩) hHeld ?_
        rotate_left
        focus (intro wq hSw; have hRun := hS9 wq; clear hSw; go_simp; try with_reducible rfl)
        try simp only [Act.put, List.setIfInBounds_toArray, List.set_cons_zero, List.set_cons_succ]
        refine takeL (i := 3) (v := ?_) rfl (by kernel_rfl) (by kernel_rfl) (by kernel_rfl) (fun _ _ _ h => h) (Or.inl ⟨by rfl, ?_⟩) hHeld ?_
        rotate_left
        focus (intro wq hSw; have hRun := (H3.out.2.1.below hSw).str; clear hSw; go_simp; try with_reducible rfl)
        try simp only [Act.put, List.setIfInBounds_toArray, List.set_cons_zero, List.set_cons_succ]
        refine takeL (i := 4) (v := ?_) rfl (by kernel_rfl) (by kernel_rfl) (by kernel_rfl) (fun _ _ _ h => h) (Or.inl ⟨by rfl, ?_⟩) hHeld ?_
        rotate_left
        focus (intro wq hSw; clear hSw; go_simp; try with_reducible rfl)
        try simp only [Act.put, List.setIfInBounds_toArray, List.set_cons_zero, List.set_cons_succ]
        refine takeL (i := 5) (v := ?_) rfl (by kernel_rfl) (by kernel_rfl) (by kernel_rfl) (fun _ _ _ h => h) (Or.inl ⟨by rfl, ?_⟩) hHeld ?_
        rotate_left
        focus (intro wq hSw; clear hSw; go_simp; try with_reducible rfl)
        try simp only [Act.put, List.setIfInBounds_toArray, List.set_cons_zero, List.set_cons_succ]
        refine wpAnyH_ready (rs := [6]) (by kernel_rfl) (by simp) ?_
        refine consL rfl (fun K hK => ?_) AllReadyH.nil
        go_simp
        refine (HH.out.2.2.2.2.2.1 _ (HH.out.1.below (Old.trans H3.out.2.2 hHeld))).mono ?_
        rintro e w4 ⟨A8, n8, c8, rfl, hR8, hB8⟩
        have hb2 : Old w3 w4 := Old.trans hHeld hB8
        clear hB8
        refine hK.out _ _ hb2 (fun hHeld => ?_)
        clear hK K
        try simp only [Act.put, List.setIfInBounds_toArray, List.set_cons_zero, List.set_cons_succ]
        refine wpAnyH_old (w1 := w4) hb2 (fun hHeld => ?_) (Old.refl _)
        refine takeL (i := 7) (v := ?_) rfl (by kernel_rfl) (by kernel_rfl) (by kernel_rfl) (fun _ _ _ h => h) (Or.inl ⟨by rfl, ?_⟩) hHeld ?_
        rotate_left
        focus (intro wq hSw; have hRun := (hR8.rd.below hSw).str; clear hSw; go_simp; try with_reducible rfl)
        try simp only [Act.put, List.setIfInBounds_toArray, List.set_cons_zero, List.set_cons_succ]
        refine takeL (i := 8) (v := ?_) rfl (by kernel_rfl) (by kernel_rfl) (by kernel_rfl) (fun _ _ _ h => h) (Or.inl ⟨by rfl, ?_⟩) hHeld ?_
        rotate_left
        focus (intro wq hSw; clear hSw; go_simp; try with_reducible rfl)
        try simp only [Act.put, List.setIfInBounds_toArray, List.set_cons_zero, List.set_cons_succ]
        refine wpAnyH_done (by kernel_rfl) ?_ _
        refine NoPanic.normal ?_
        simp only [Exit.then]
        have HB := Lib.hid (show Old w w4 from Old.trans H3.out.2.2 hb2)
        have HDB := Lib.hid (H3.out.1.below hb2)
        clear hHeld HSz hR8 hb2
        by_cases e1 : DB.take N = LH
        · have hbe : (DB.take N == LH) = true := by simpa using e1
          simp only [bne, hbe, Bool.not_true]
          have HE := Lib.hid e1
          clear e1 hbe
          go_wp2_with fail
          go_loopw [12] (fun iv wr => ∃ i k : Nat, iv = .int .i64 (i : Int) ∧ N ≤ i ∧ i ≤ n4 ∧ DB.drop N = zs k ++ DB.drop i ∧ wr = w4) (fun iv _ => n4 - (intOf iv).toNat)
          case atStart => exact ⟨N, 0, rfl, Nat.le_refl _, HH.out.2.2.2.2.2.2.2.1, rfl, rfl⟩
          case round =>
            obtain ⟨i, k, rfl, hNi, hi, hdr, rfl⟩ := hrel
            have hn4b := HH.out.2.2.2.2.2.2.2.2.1
            by_cases hlt : i < n4
            · have hd : decide ((i : Int) < (n4 : Int)) = true := decide_eq_true (by omega)
              have hdi : (i : Int) < (n4 : Int) := by omega
              obtain ⟨x, hx⟩ : ∃ x, DB[i]? = some x := ⟨_, List.getElem?_eq_getElem (by rw [HH.out.2.2.2.2.2.2.1]; exact hlt)⟩
              have hdx : DB.drop i = x :: DB.drop (i + 1) := by
                have := (List.getElem?_eq_some_iff.1 hx).2
                rw [List.drop_eq_getElem_cons (by rw [HH.out.2.2.2.2.2.2.1]; exact hlt), this]
              rw [hdx] at hdr
              obtain ⟨_, _, hge, hgat⟩ := HDB.out.addr (by omega)
              cases hge
              have yx := hgat.2 i x hx
              rw [Nat.zero_add] at yx
              obtain ⟨i1, hi1⟩ : ∃ i1, i + 1 = i1 := ⟨_, rfl⟩
              rw [hi1] at hdr
              have hi1i : (i : Int) + 1 = (i1 : Int) := by omega
              have hi1w : IntKind.i64.wrap (i1 : Int) = (i1 : Int) := IntWalk.i64_in _ (by omega)
              by_cases e2 : x = 1
              · have b5 : isN x 1 = true := by rw [e2]; rfl
                obtain ⟨A9, n9, c9, hn9, hS10, hR9, _⟩ := HDB.out.cut_ex2 (k := i1) (by omega)
                have HG := Lib.hid (And.intro hR9 (And.intro (show RS = (DB.drop i1, 0) from HA.out.2.2.1 k _ HE.out (by rw [hdr, e2])) (show n9 ≤ 1000 by omega)))
                clear hR9 hn9 hdr hgat hdx hx e2 hi1 hlt hi hNi hn4b
                go_wp2_with (at_builtin; refine wp_app2 (.const (.slice none 0 0)) (.tmp 78) wr.heap.size (.slice none 0 0) [] (Own.nil _ _) (Nat.le_refl _) A9 n9 c9 _ HG.out.1 (by have h1 := HG.out.1.1; have h2 := HG.out.2.2; simp only [List.length_nil]; omega) rfl rfl rfl rfl ?_; intro A5 n5 c5 w5 hn5 hG5; have H5 := Lib.hid (And.intro hG5.own (show Old wr w5 from hG5.below)); clear hG5)
                refine bodyPost_ret (results_tmp2 rfl _ _ _) rfl ?_
                rw [HG.out.2.1]
                refine ⟨_, _, _, rfl, ?_, Old.trans HB.out H5.out.2⟩
                simpa using H5.out.1.rd
              · have b5 : isN x 1 = false := by unfold isN; simp only [beq_eq_false_iff_ne]; exact fun h => e2 (UInt8.toNat_inj.1 (by exact_mod_cast h))
                by_cases e3 : x = 0
                · have b6 : isN x 0 = true := by rw [e3]; rfl
                  have HG := Lib.hid (And.intro (show DB.drop N = zs (k + 1) ++ DB.drop i1 by rw [hdr, e3, zs_succ, List.append_assoc]; rfl) (And.intro (show N ≤ i1 by omega) (And.intro (show i1 ≤ n4 by omega) hi1)))
                  clear hdr hgat hdx hx e2 e3 hi1 hlt hi hNi hn4b
                  go_wp2_with fail
                  go_roundw
                  case rel => exact ⟨i1, k + 1, rfl, HG.out.2.1, HG.out.2.2.1, HG.out.1, by first | trivial | rfl⟩
                  case measure => have h1 := HG.out.2.2.2; have h2 := HG.out.2.2.1; simp [intOf]; omega
                · have b6 : isN x 0 = false := by unfold isN; simp only [beq_eq_false_iff_ne]; exact fun h => e3 (UInt8.toNat_inj.1 (by exact_mod_cast h))
                  have HG := Lib.hid (show RS = ([], 64) from HA.out.2.1 k x _ HE.out hdr e3 e2)
                  clear hdr hgat hdx hx e2 e3 hi1 hlt hi hNi hn4b
                  go_wp2_with fail
                  refine bodyPost_ret (results_tmp2 rfl _ _ _) rfl ?_
                  rw [HG.out]
                  exact ⟨none, 0, 0, rfl, Rd.nil _, HB.out⟩
            · obtain rfl : i = n4 := by omega
              have hd : decide ((i : Int) < (i : Int)) = false := decide_eq_false (by omega)
              have HG := Lib.hid (show RS = ([], 64) from HA.out.2.2.2 k HE.out (by rw [hdr, List.drop_eq_nil_of_le (by rw [HH.out.2.2.2.2.2.2.1]; exact Nat.le_refl _), List.append_nil]))
              clear hdr hlt hi hNi hn4b
              go_wp2_with fail
              refine bodyPost_ret (results_tmp2 rfl _ _ _) rfl ?_
              rw [HG.out]
              exact ⟨none, 0, 0, rfl, Rd.nil _, HB.out⟩
        · have hbe : (DB.take N == LH) = false := by simpa using e1
          simp only [bne, hbe, Bool.not_false]
          have HE := Lib.hid (HA.out.1 e1)
          clear e1 hbe
          go_wp2_with fail
          refine bodyPost_ret (results_tmp2 rfl _ _ _) rfl ?_
          rw [HE.out]
          exact ⟨none, 0, 0, rfl, Rd.nil _, HB.out⟩
      · rw [if_pos (.inr d4)]
        have b4 : isN x0 0 = false := by unfold isN; simp; exact fun h => d4 (UInt8.toNat_inj.1 (by simpa using h))
        clear h64 hh hin h1 h3 hl1 hl3 hx0 hg0 d4
        go_enter Tryd.func19, Tryd.ntmps19
        go_wp2_with fail
        refine HS.out.mono ?_
        rintro e w' ⟨rfl, rfl⟩
        go_wp2_with fail
        refine bodyPost_ret (results_tmp2 rfl _ _ _) rfl ?_
        exact ⟨none, 0, 0, rfl, Rd.nil _, Old.refl _⟩
end Go.Proofs.YtddemlajfbagdaaDoor
