/-
  Pad: OAEP is read.
-/
import Derived.Test.YtddemlajfbagdaaDoorZzPd4
import Derived.Test.YtddemlajfbagdaaDoorZzPd4
import Derived.Test.YtddemlajfbagdaaDoorEqB
import Derived.Test.YtddemlajfbagdaaDoorZzRot
namespace Go.Proofs.YtddemlajfbagdaaDoor
set_option maxRecDepth 100000
open Go.RowKit

theorem Rd.cut_mid {w : World} {A : Option Addr} {m c k j d : Nat} {l : List UInt8} (h : Rd w A m c l) (hj : j ≤ m) (hd : j = k + d) :
    ∃ A' c', (∀ w, (Instr.slice 22 (.slice A m c) (some (.int .i64 (k : Int))) (some (.int .i64 (j : Int))) none).run Tryd.prog w = .ok (.slice A' d c') w) ∧ Rd w A' d c' ((l.drop k).take d) := by
  have h1 := h.2.1
  have e : j - k = d := by omega
  have := slice_both A m c k j (by omega) (by omega)
  rw [e] at this
  exact ⟨_, _, this, (h.cut (k := k) (by omega)).front (k := d) (by omega)⟩
theorem Rd.cut_to {w : World} {A : Option Addr} {m c k : Nat} {l : List UInt8} (h : Rd w A m c l) (hk : k ≤ m) :
    (∀ w, (Instr.slice 22 (.slice A m c) none (some (.int .i64 (k : Int))) none).run Tryd.prog w = .ok (.slice A k c) w) ∧ Rd w A k c (l.take k) := by
  have h1 := h.2.1
  refine ⟨slice_to A m c k ?_ (by omega), h.front hk⟩
  obtain ⟨_, _, _, ⟨rfl, _⟩ | ⟨b, off, rfl, h4⟩⟩ := h
  · intro ad e; cases e
  · intro ad e; cases e; rfl
theorem rd_head {w : World} {b off m c : Nat} {x : UInt8} {r : List UInt8} (h : Rd w (some ⟨b, off, none⟩) m c (x :: r)) : w.cell? ⟨b, off, none⟩ = some (B x) := by
  obtain ⟨_, _, _, ⟨e, _⟩ | ⟨b', off', e, h4⟩⟩ := h
  · cases e
  · cases e; exact h4.2 0 x rfl
def decOF (kind : Int) (label em : List UInt8) : List UInt8 × Int :=
  if hsize kind = 0 then ([], 7) else if (em.length : Int) < 2 * hsize kind + 2 ∨ em.getD 0 0 ≠ 0 then ([], 64)
  else match decO (hsize kind).toNat (rof kind) (mask kind) label em with | none => ([], 64) | some m => (m, 0)
set_option maxHeartbeats 16000000 in
theorem deco_any (kind : Int) (A1 A3 : Option Addr) (m1 c1 m3 c3 : Nat) (label em : List UInt8) (w : World) (h1 : Rd w A1 m1 c1 label) (h3 : Rd w A3 m3 c3 em) (hK : KAt w) (hm1 : m1 ≤ 1000) (hm3 : m3 ≤ 1000) :
    Calls Tryd.prog 18 #[.int .i64 kind, .slice A1 m1 c1, .slice A3 m3 c3] w (PRes w (decOF kind label em)) := by
  obtain ⟨h, hh⟩ : ∃ h, hsize kind = h := ⟨_, rfl⟩
  have hsz := size_any kind w
  have h64 := hsize_64 kind
  have hin := hsize_in kind
  have hl1 := h1.1
  have hl3 := h3.1
  unfold decOF
  rw [← hl3]
  rw [hh] at hsz h64 hin ⊢
  have HS := Lib.hid hsz
  clear hsz
  by_cases d1 : h = 0
  · rw [if_pos d1]
    subst d1
    clear h64 hh hin h1 h3 hl1 hl3 hK
    go_enter Tryd.func18, Tryd.ntmps18
    go_wp2_with fail
    refine HS.out.mono ?_
    rintro e w' ⟨rfl, rfl⟩
    go_wp2_with fail
    refine bodyPost_ret (results_tmp2 rfl _ _ _) rfl ?_
    exact ⟨none, 0, 0, rfl, Rd.nil _, Old.refl _⟩
  · rw [if_neg d1]
    have b1 : (h == 0) = false := by simpa using d1
    obtain ⟨N, rfl⟩ := Int.eq_ofNat_of_zero_le h64.1
    obtain ⟨q, hq⟩ : ∃ q, 2 * (N : Int) = q := ⟨_, rfl⟩
    have hqw : IntKind.i64.wrap q = q := IntWalk.i64_in _ (by omega)
    obtain ⟨q2, hq2⟩ : ∃ q2, q + 2 = q2 := ⟨_, rfl⟩
    have hq2w : IntKind.i64.wrap q2 = q2 := IntWalk.i64_in _ (by omega)
    rw [hq, hq2, Int.toNat_natCast]
    by_cases d2 : (m3 : Int) < q2
    · rw [if_pos (.inl d2)]
      have b2 : decide ((m3 : Int) < q2) = true := decide_eq_true d2
      clear h64 hh hin h1 h3 hl1 hl3 hK
      go_enter Tryd.func18, Tryd.ntmps18
      go_wp2_with fail
      refine HS.out.mono ?_
      rintro e w' ⟨rfl, rfl⟩
      go_wp2_with fail
      refine bodyPost_ret (results_tmp2 rfl _ _ _) rfl ?_
      exact ⟨none, 0, 0, rfl, Rd.nil _, Old.refl _⟩
    · have b2 : decide ((m3 : Int) < q2) = false := decide_eq_false d2
      obtain ⟨r, hr⟩ : ∃ r, (m3 : Int) - (N : Int) = r := ⟨_, rfl⟩
      have hrw : IntKind.i64.wrap r = r := IntWalk.i64_in _ (by omega)
      obtain ⟨r2, hr2⟩ : ∃ r2, r - 1 = r2 := ⟨_, rfl⟩
      have hr2w : IntKind.i64.wrap r2 = r2 := IntWalk.i64_in _ (by omega)
      have b3i : ¬ r2 > 65536 := by omega
      have b3 : decide (r2 > 65536) = false := decide_eq_false b3i
      have h0m : 0 < m3 := by omega
      obtain ⟨x0, hx0⟩ : ∃ x, em[0]? = some x := ⟨_, List.getElem?_eq_getElem (by omega)⟩
      have hg0 : em.getD 0 0 = x0 := by rw [List.getD_eq_getElem?_getD, hx0]; rfl
      obtain ⟨be, oe, rfl, hat⟩ := h3.addr h0m
      have ye := hat.2 0 x0 hx0
      rw [Nat.add_zero] at ye
      clear hat
      rw [hg0]
      by_cases d4 : x0 = 0
      · rw [if_neg (fun hx => hx.elim d2 (fun hx => hx d4))]
        have b4 : isN x0 0 = true := by rw [d4]; rfl
        have hki := hin d1
        have hmN : 2 * N + 2 ≤ m3 := by omega
        have hN1 : 1 ≤ N := by omega
        have hN64 : N ≤ 64 := by omega
        obtain ⟨p, hp⟩ : ∃ p, N + 1 = p := ⟨_, rfl⟩
        have hpi : (1 : Int) + (N : Int) = (p : Int) := by omega
        have hpw : IntKind.i64.wrap (p : Int) = (p : Int) := IntWalk.i64_in _ (by omega)
        obtain ⟨A4, n4, c4, hn4, hS4, hR4, _⟩ := h3.cut_ex2 (k := p) (by omega)
        obtain ⟨A5, c5, hS5, hR5⟩ := h3.cut_mid (k := 1) (j := p) (d := N) (by omega) (by omega)
        rw [show ((1 : Nat) : Int) = 1 from rfl] at hS5
        obtain ⟨X, hX⟩ : ∃ X, em.drop p = X := ⟨_, rfl⟩
        obtain ⟨Y, hY⟩ : ∃ Y, (em.drop 1).take N = Y := ⟨_, rfl⟩
        rw [hX] at hR4
        rw [hY] at hR5
        have hXl := hR4.1
        have hYl := hR5.1
        obtain ⟨SD, hSD⟩ : ∃ S, xorB Y (mask kind X N) = S := ⟨_, rfl⟩
        have hSl : SD.length = N := by rw [← hSD, xorB_len _ _ (by rw [mask_len kind hki X (by omega)]; omega)]; exact hYl.symm
        obtain ⟨DB, hDB⟩ : ∃ S, xorB X (mask kind SD n4) = S := ⟨_, rfl⟩
        have hDl : DB.length = n4 := by rw [← hDB, xorB_len _ _ (by rw [mask_len kind hki SD (by omega)]; omega)]; exact hXl.symm
        have hdec : decDb N (mask kind) em = DB := by
          unfold decDb
          rw [show 1 + N = p by omega, hX, hY, hSD, ← hXl, hDB]
        have hm1f := fun W (hr4 : Rd W A4 n4 c4 X) (hr5 : Rd W A5 N c5 Y) (hK : KAt W) => pmask_any kind hki A4 A5 n4 c4 N c5 X Y W hr4 hr5 (by omega) (by omega) hN1 hK
        rw [hSD] at hm1f
        have hm2f := fun A n c W (hr : Rd W A n c SD) (hr4 : Rd W A4 n4 c4 X) (hK : KAt W) => pmask_any kind hki A A4 n c n4 c4 SD X W hr hr4 (by have := hr.1; omega) (by omega) (by omega) hK
        rw [hDB] at hm2f
        have hn4N : N ≤ n4 := by omega
        unfold decO
        rw [hdec]
        have hof := fun (A : Option Addr) (c : Nat) (W : World) (hp : PartsAt W A 1 c [label]) (hK : KAt W) => of_res_all kind A 1 c [label] W hp (by simp; omega) hK
        simp only [List.flatten_cons, List.flatten_nil, List.append_nil] at hof
        obtain ⟨LH, hLH⟩ : ∃ L, rof kind label = L := ⟨_, rfl⟩
        simp only [hLH] at hof
        rw [hLH]
        have HH := Lib.hid (And.intro h1 (And.intro hK (And.intro hR4 (And.intro hR5 (And.intro hm1f (And.intro hm2f (And.intro hof (And.intro hDl (And.intro hn4N (show n4 ≤ 1000 by omega))))))))))
        clear h1 hK hR4 hR5 hm1f hm2f hof hDl hn4N hn4 hXl hYl hdec hSl hLH hDB hSD hX hY h3 hl1 hl3 h64 hin hh hm1 hki hmN hN1 hN64 hp hg0 hx0 d4
        by_cases e1 : DB.take N = LH
        · rw [if_pos e1]
          have f1 : decide (DB.take N = LH) = true := decide_eq_true e1
          obtain ⟨TT, hTT⟩ : ∃ T, trimZ (DB.drop N) = T := ⟨_, rfl⟩
          rw [hTT]
          cases TT with
          | nil =>
            show Calls _ _ _ _ (PRes w ([], 64))
            go_enter Tryd.func18, Tryd.ntmps18
            go_wp2_with fail
            refine HS.out.mono ?_
            rintro e w' ⟨rfl, rfl⟩
            go_wp2_with fail
            refine region_old (by kernel_rfl) (fun wd hHeld hSz => ?_)
            have HSz := Lib.hid hSz
            clear hSz
            refine takeL (i := 0) (v := ?_) rfl (by kernel_rfl) (by kernel_rfl) (by kernel_rfl) (fun _ _ _ h => h) (Or.inl ⟨by rfl, ?_⟩) hHeld ?_
            rotate_left
            focus (intro wq hSw; clear hSw; go_simp; try with_reducible rfl)
            try simp only [Act.put, List.setIfInBounds_toArray, List.set_cons_zero, List.set_cons_succ]
            refine takeL (i := 1) (v := ?_) rfl (by kernel_rfl) (by kernel_rfl) (by kernel_rfl) (fun _ _ _ h => h) (Or.inl ⟨by rfl, ?_⟩) hHeld ?_
            rotate_left
            focus (intro wq hSw; clear hSw; go_simp; try with_reducible rfl)
            try simp only [Act.put, List.setIfInBounds_toArray, List.set_cons_zero, List.set_cons_succ]
            refine takeL (i := 2) (v := ?_) rfl (by kernel_rfl) (by kernel_rfl) (by kernel_rfl) (fun _ _ _ h => h) (Or.inl ⟨by rfl, ?_⟩) hHeld ?_
            rotate_left
            focus (intro wq hSw; clear hSw; go_simp; try with_reducible rfl)
            try simp only [Act.put, List.setIfInBounds_toArray, List.set_cons_zero, List.set_cons_succ]
            refine takeL (i := 3) (v := ?_) rfl (by kernel_rfl) (by kernel_rfl) (by kernel_rfl) (fun _ _ _ h => h) (Or.inl ⟨by rfl, ?_⟩) hHeld ?_
            rotate_left
            focus (intro wq hSw; clear hSw; go_simp; try with_reducible rfl)
            try simp only [Act.put, List.setIfInBounds_toArray, List.set_cons_zero, List.set_cons_succ]
            refine takeL (i := 4) (v := ?_) rfl (by kernel_rfl) (by kernel_rfl) (by kernel_rfl) (fun _ _ _ h => h) (Or.inl ⟨by rfl, ?_⟩) hHeld ?_
            rotate_left
            focus (intro wq hSw; have hRun := hS4 wq; clear hSw; go_simp; try with_reducible rfl)
            try simp only [Act.put, List.setIfInBounds_toArray, List.set_cons_zero, List.set_cons_succ]
            refine takeL (i := 5) (v := ?_) rfl (by kernel_rfl) (by kernel_rfl) (by kernel_rfl) (fun _ _ _ h => h) (Or.inl ⟨by rfl, ?_⟩) hHeld ?_
            rotate_left
            focus (intro wq hSw; clear hSw; go_simp; try with_reducible rfl)
            try simp only [Act.put, List.setIfInBounds_toArray, List.set_cons_zero, List.set_cons_succ]
            refine takeL (i := 6) (v := ?_) rfl (by kernel_rfl) (by kernel_rfl) (by kernel_rfl) (fun _ _ _ h => h) (Or.inl ⟨by rfl, ?_⟩) hHeld ?_
            rotate_left
            focus (intro wq hSw; clear hSw; go_simp; try with_reducible rfl)
            try simp only [Act.put, List.setIfInBounds_toArray, List.set_cons_zero, List.set_cons_succ]
            refine takeL (i := 7) (v := ?_) rfl (by kernel_rfl) (by kernel_rfl) (by kernel_rfl) (fun _ _ _ h => h) (Or.inl ⟨by rfl, ?_⟩) hHeld ?_
            rotate_left
            focus (intro wq hSw; clear hSw; go_simp; try with_reducible rfl)
            try simp only [Act.put, List.setIfInBounds_toArray, List.set_cons_zero, List.set_cons_succ]
            refine takeL (i := 8) (v := ?_) rfl (by kernel_rfl) (by kernel_rfl) (by kernel_rfl) (fun _ _ _ h => h) (Or.inl ⟨by rfl, ?_⟩) hHeld ?_
            rotate_left
            focus (intro wq hSw; have hRun := hS5 wq; clear hSw; go_simp; try with_reducible rfl)
            try simp only [Act.put, List.setIfInBounds_toArray, List.set_cons_zero, List.set_cons_succ]
            refine wpAnyH_ready (rs := [9]) (by kernel_rfl) (by simp) ?_
            refine consL rfl (fun K hK => ?_) AllReadyH.nil
            go_simp
            refine (HH.out.2.2.2.2.1 _ (HH.out.2.2.1.below hHeld) (HH.out.2.2.2.1.below hHeld) (HH.out.2.1.below hHeld)).mono ?_
            rintro e w1 ⟨A6, n6, c6, rfl, hR6, hB6⟩
            have hb1 : Old w w1 := Old.trans hHeld hB6
            have hR6 := hR6.rd
            clear hB6
            refine hK.out _ _ hb1 (fun hHeld => ?_)
            clear hK K
            try simp only [Act.put, List.setIfInBounds_toArray, List.set_cons_zero, List.set_cons_succ]
            refine wpAnyH_old (w1 := w1) hb1 (fun hHeld => ?_) (Old.refl _)
            refine takeL (i := 10) (v := ?_) rfl (by kernel_rfl) (by kernel_rfl) (by kernel_rfl) (fun _ _ _ h => h) (Or.inl ⟨by rfl, ?_⟩) hHeld ?_
            rotate_left
            focus (intro wq hSw; clear hSw; go_simp; try with_reducible rfl)
            try simp only [Act.put, List.setIfInBounds_toArray, List.set_cons_zero, List.set_cons_succ]
            refine wpAnyH_done (by kernel_rfl) ?_ _
            refine NoPanic.normal ?_
            simp only [Exit.then]
            clear hHeld HSz
            have H1 := Lib.hid (And.intro hR6 hb1)
            clear hR6 hb1
            go_wp2_with fail
            refine (HH.out.2.2.2.2.2.1 A6 n6 c6 w1 H1.out.1 (HH.out.2.2.1.below H1.out.2) (HH.out.2.1.below H1.out.2)).mono ?_
            rintro e w2 ⟨A7, n7, c7, rfl, hR7, hB7⟩
            have hn7 := hR7.len
            rw [HH.out.2.2.2.2.2.2.2.1] at hn7
            obtain ⟨A8, n8, c8, hn8, hS8, hR8, _⟩ := hR7.rd.cut_ex2 (k := N) (by rw [hn7]; exact HH.out.2.2.2.2.2.2.2.2.1)
            obtain ⟨hS9, hR9⟩ := hR7.rd.cut_to (k := N) (by rw [hn7]; exact HH.out.2.2.2.2.2.2.2.2.1)
            have H2 := Lib.hid (And.intro hR8 (And.intro hR9 (And.intro (Old.trans H1.out.2 hB7) (show n8 ≤ 1000 by have := HH.out.2.2.2.2.2.2.2.2.2; omega))))
            clear hR7 hB7 hn7 hn8 hR8 hR9
            go_wp2_with fail
            refine (trimL_any A8 n8 c8 _ w2 H2.out.1 (by have := H2.out.2.2.2; omega)).mono ?_
            rintro e w3 ⟨A10, n10, c10, rfl, hR10, rfl⟩
            rw [hTT] at hR10
            obtain rfl : n10 = 0 := hR10.1
            clear hR10
            go_wp2_with fail
            refine region_old (by kernel_rfl) (fun wd hHeld hSz => ?_)
            have HSz := Lib.hid hSz
            clear hSz
            refine takeL (i := 0) (v := ?_) rfl (by kernel_rfl) (by kernel_rfl) (by kernel_rfl) (fun _ _ _ h => h) (Or.inl ⟨by rfl, ?_⟩) hHeld ?_
            rotate_left
            focus (intro wq hSw; clear hSw; go_simp; try with_reducible rfl)
            try simp only [Act.put, List.setIfInBounds_toArray, List.set_cons_zero, List.set_cons_succ]
            refine takeL (i := 1) (v := ?_) rfl (by kernel_rfl) (by kernel_rfl) (by kernel_rfl) (fun _ _ _ h => h) (Or.inl ⟨by rfl, ?_⟩) hHeld ?_
            rotate_left
            focus (intro wq hSw; clear hSw; go_simp; try with_reducible rfl)
            try simp only [Act.put, List.setIfInBounds_toArray, List.set_cons_zero, List.set_cons_succ]
            refine takeL (i := 2) (v := ?_) rfl (by kernel_rfl) (by kernel_rfl) (by kernel_rfl) (fun _ _ _ h => h) (Or.inl ⟨by rfl, ?_⟩) hHeld ?_
            rotate_left
            focus (intro wq hSw; have hRun := hS9 wq; clear hSw; go_simp; try with_reducible rfl)
            try simp only [Act.put, List.setIfInBounds_toArray, List.set_cons_zero, List.set_cons_succ]
            refine takeL (i := 3) (v := ?_) rfl (by kernel_rfl) (by kernel_rfl) (by kernel_rfl) (fun _ _ _ h => h) (Or.inl ⟨by rfl, ?_⟩) hHeld ?_
            rotate_left
            focus (intro wq hSw; clear hSw; go_simp; try with_reducible rfl)
            try simp only [Act.put, List.setIfInBounds_toArray, List.set_cons_zero, List.set_cons_succ]
            refine takeL (i := 4) (v := ?_) rfl (by kernel_rfl) (by kernel_rfl) (by kernel_rfl) (fun _ _ _ h => h) (Or.inl ⟨by rfl, ?_⟩) hHeld ?_
            rotate_left
            focus (intro wq hSw; clear hSw; go_simp; try with_reducible rfl)
            try simp only [Act.put, List.setIfInBounds_toArray, List.set_cons_zero, List.set_cons_succ]
            refine wpAnyH_ready (rs := [5]) (by kernel_rfl) (by simp) ?_
            refine consL rfl (fun K hK => ?_) AllReadyH.nil
            go_simp
            have hA : Old w2 (wd.alloc (.cells #[.slice A1 m1 c1] 22)) := Old.alloc hHeld _
            refine hK.out _ _ hA (fun hHeld => ?_)
            clear hK K
            try simp only [Act.put, List.setIfInBounds_toArray, List.set_cons_zero, List.set_cons_succ]
            refine wpAnyH_ready (rs := [6]) (by kernel_rfl) (by simp) ?_
            refine consL rfl (fun K hK => ?_) AllReadyH.nil
            go_simp
            refine (HH.out.2.2.2.2.2.2.1 _ _ _ (rd_one (Blk.new _ _ _) (HH.out.1.below (Old.trans H2.out.2.2.1 hA))) (HH.out.2.1.below (Old.trans H2.out.2.2.1 hA))).mono ?_
            rintro e w4 ⟨A11, n11, c11, rfl, hR11, hB11⟩
            have hb4 : Old w2 w4 := Old.trans hA hB11
            have hR11 := hR11.rd
            clear hB11
            refine hK.out _ _ hb4 (fun hHeld => ?_)
            clear hK K
            try simp only [Act.put, List.setIfInBounds_toArray, List.set_cons_zero, List.set_cons_succ]
            refine wpAnyH_old (w1 := w4) hb4 (fun hHeld => ?_) (Old.refl _)
            refine wpAnyH_ready (rs := [7]) (by kernel_rfl) (by simp) ?_
            refine consL rfl (fun K hK => ?_) AllReadyH.nil
            go_simp
            refine (equalB_any _ _ _ _ _ _ _ _ _ (H2.out.2.1.below hb4) hR11).mono ?_
            rintro e w5 ⟨rfl, rfl⟩
            refine hK.out _ _ (Old.refl _) (fun hHeld => ?_)
            clear hK K
            try simp only [Act.put, List.setIfInBounds_toArray, List.set_cons_zero, List.set_cons_succ]
            refine takeL (i := 8) (v := ?_) rfl (by kernel_rfl) (by kernel_rfl) (by kernel_rfl) (fun _ _ _ h => h) (Or.inl ⟨by rfl, ?_⟩) hHeld ?_
            rotate_left
            focus (intro wq hSw; clear hSw; go_simp; try with_reducible rfl)
            try simp only [Act.put, List.setIfInBounds_toArray, List.set_cons_zero, List.set_cons_succ]
            refine takeL (i := 9) (v := .bool false) rfl (by kernel_rfl) (by kernel_rfl) (by kernel_rfl) (fun _ _ _ h => h) (Or.inl ⟨by rfl, ?_⟩) hHeld ?_
            focus (intro wq hSw; clear hSw; go_simp; try with_reducible rfl)
            try simp only [Act.put, List.setIfInBounds_toArray, List.set_cons_zero, List.set_cons_succ]
            refine takeL (i := 10) (v := ?_) rfl (by kernel_rfl) (by kernel_rfl) (by kernel_rfl) (fun _ _ _ h => h) (Or.inl ⟨by rfl, ?_⟩) hHeld ?_
            rotate_left
            focus (intro wq hSw; clear hSw; go_simp; try with_reducible rfl)
            try simp only [Act.put, List.setIfInBounds_toArray, List.set_cons_zero, List.set_cons_succ]
            refine takeL (i := 11) (v := ?_) rfl (by kernel_rfl) (by kernel_rfl) (by kernel_rfl) (fun _ _ _ h => h) (Or.inl ⟨by rfl, ?_⟩) hHeld ?_
            rotate_left
            focus (intro wq hSw; clear hSw; go_simp; try with_reducible rfl)
            try simp only [Act.put, List.setIfInBounds_toArray, List.set_cons_zero, List.set_cons_succ]
            refine takeL (i := 12) (v := ?_) rfl (by kernel_rfl) (by kernel_rfl) (by kernel_rfl) (fun _ _ _ h => h) (Or.inl ⟨by rfl, ?_⟩) hHeld ?_
            rotate_left
            focus (intro wq hSw; clear hSw; go_simp; try with_reducible rfl)
            try simp only [Act.put, List.setIfInBounds_toArray, List.set_cons_zero, List.set_cons_succ]
            refine takeL (i := 13) (v := ?_) rfl (by kernel_rfl) (by kernel_rfl) (by kernel_rfl) (fun _ _ _ h => h) (Or.inl ⟨by rfl, ?_⟩) hHeld ?_
            rotate_left
            focus (intro wq hSw; clear hSw; go_simp; try with_reducible rfl)
            try simp only [Act.put, List.setIfInBounds_toArray, List.set_cons_zero, List.set_cons_succ]
            refine takeL (i := 14) (v := .bool true) rfl (by kernel_rfl) (by kernel_rfl) (by kernel_rfl) (fun _ _ _ h => h) (Or.inl ⟨by rfl, ?_⟩) hHeld ?_
            focus (intro wq hSw; clear hSw; go_simp; try with_reducible rfl)
            try simp only [Act.put, List.setIfInBounds_toArray, List.set_cons_zero, List.set_cons_succ]
            refine takeL (i := 15) (v := undef) rfl (by kernel_rfl) (by kernel_rfl) (by kernel_rfl) (fun _ _ _ h => h) (Or.inr ⟨by rfl, rfl⟩) hHeld ?_
            try simp only [Act.put, List.setIfInBounds_toArray, List.set_cons_zero, List.set_cons_succ]
            refine takeL (i := 16) (v := undef) rfl (by kernel_rfl) (by kernel_rfl) (by kernel_rfl) (fun _ _ _ h => h) (Or.inr ⟨by rfl, rfl⟩) hHeld ?_
            try simp only [Act.put, List.setIfInBounds_toArray, List.set_cons_zero, List.set_cons_succ]
            refine takeL (i := 17) (v := undef) rfl (by kernel_rfl) (by kernel_rfl) (by kernel_rfl) (fun _ _ _ h => h) (Or.inr ⟨by rfl, rfl⟩) hHeld ?_
            try simp only [Act.put, List.setIfInBounds_toArray, List.set_cons_zero, List.set_cons_succ]
            refine takeL (i := 18) (v := undef) rfl (by kernel_rfl) (by kernel_rfl) (by kernel_rfl) (fun _ _ _ h => h) (Or.inr ⟨by rfl, rfl⟩) hHeld ?_
            try simp only [Act.put, List.setIfInBounds_toArray, List.set_cons_zero, List.set_cons_succ]
            refine takeL (i := 19) (v := ?_) rfl (by kernel_rfl) (by kernel_rfl) (by kernel_rfl) (fun _ _ _ h => h) (Or.inl ⟨by rfl, ?_⟩) hHeld ?_
            rotate_left
            focus (intro wq hSw; clear hSw; go_simp; try with_reducible rfl)
            try simp only [Act.put, List.setIfInBounds_toArray, List.set_cons_zero, List.set_cons_succ]
            refine wpAnyH_done (by kernel_rfl) ?_ _
            refine NoPanic.normal ?_
            simp only [Exit.then]
            go_wp2_with fail
            refine bodyPost_ret (results_tmp2 rfl _ _ _) rfl ?_
            exact ⟨none, 0, 0, rfl, Rd.nil _, Old.trans H2.out.2.2.1 hb4⟩
          | cons x r =>
            by_cases e2 : x = 1
            · show Calls _ _ _ _ (PRes w (match (if x = 1 then some r else none) with | none => ([], 64) | some m => (m, 0)))
              rw [if_pos e2]
              have f2 : isN x 1 = true := by rw [e2]; rfl
              show Calls _ _ _ _ (PRes w (r, 0))
              go_enter Tryd.func18, Tryd.ntmps18
              go_wp2_with fail
              refine HS.out.mono ?_
              rintro e w' ⟨rfl, rfl⟩
              go_wp2_with fail
              refine region_old (by kernel_rfl) (fun wd hHeld hSz => ?_)
              have HSz := Lib.hid hSz
              clear hSz
              refine takeL (i := 0) (v := ?_) rfl (by kernel_rfl) (by kernel_rfl) (by kernel_rfl) (fun _ _ _ h => h) (Or.inl ⟨by rfl, ?_⟩) hHeld ?_
              rotate_left
              focus (intro wq hSw; clear hSw; go_simp; try with_reducible rfl)
              try simp only [Act.put, List.setIfInBounds_toArray, List.set_cons_zero, List.set_cons_succ]
              refine takeL (i := 1) (v := ?_) rfl (by kernel_rfl) (by kernel_rfl) (by kernel_rfl) (fun _ _ _ h => h) (Or.inl ⟨by rfl, ?_⟩) hHeld ?_
              rotate_left
              focus (intro wq hSw; clear hSw; go_simp; try with_reducible rfl)
              try simp only [Act.put, List.setIfInBounds_toArray, List.set_cons_zero, List.set_cons_succ]
              refine takeL (i := 2) (v := ?_) rfl (by kernel_rfl) (by kernel_rfl) (by kernel_rfl) (fun _ _ _ h => h) (Or.inl ⟨by rfl, ?_⟩) hHeld ?_
              rotate_left
              focus (intro wq hSw; clear hSw; go_simp; try with_reducible rfl)
              try simp only [Act.put, List.setIfInBounds_toArray, List.set_cons_zero, List.set_cons_succ]
              refine takeL (i := 3) (v := ?_) rfl (by kernel_rfl) (by kernel_rfl) (by kernel_rfl) (fun _ _ _ h => h) (Or.inl ⟨by rfl, ?_⟩) hHeld ?_
              rotate_left
              focus (intro wq hSw; clear hSw; go_simp; try with_reducible rfl)
              try simp only [Act.put, List.setIfInBounds_toArray, List.set_cons_zero, List.set_cons_succ]
              refine takeL (i := 4) (v := ?_) rfl (by kernel_rfl) (by kernel_rfl) (by kernel_rfl) (fun _ _ _ h => h) (Or.inl ⟨by rfl, ?_⟩) hHeld ?_
              rotate_left
              focus (intro wq hSw; have hRun := hS4 wq; clear hSw; go_simp; try with_reducible rfl)
              try simp only [Act.put, List.setIfInBounds_toArray, List.set_cons_zero, List.set_cons_succ]
              refine takeL (i := 5) (v := ?_) rfl (by kernel_rfl) (by kernel_rfl) (by kernel_rfl) (fun _ _ _ h => h) (Or.inl ⟨by rfl, ?_⟩) hHeld ?_
              rotate_left
              focus (intro wq hSw; clear hSw; go_simp; try with_reducible rfl)
              try simp only [Act.put, List.setIfInBounds_toArray, List.set_cons_zero, List.set_cons_succ]
              refine takeL (i := 6) (v := ?_) rfl (by kernel_rfl) (by kernel_rfl) (by kernel_rfl) (fun _ _ _ h => h) (Or.inl ⟨by rfl, ?_⟩) hHeld ?_
              rotate_left
              focus (intro wq hSw; clear hSw; go_simp; try with_reducible rfl)
              try simp only [Act.put, List.setIfInBounds_toArray, List.set_cons_zero, List.set_cons_succ]
              refine takeL (i := 7) (v := ?_) rfl (by kernel_rfl) (by kernel_rfl) (by kernel_rfl) (fun _ _ _ h => h) (Or.inl ⟨by rfl, ?_⟩) hHeld ?_
              rotate_left
              focus (intro wq hSw; clear hSw; go_simp; try with_reducible rfl)
              try simp only [Act.put, List.setIfInBounds_toArray, List.set_cons_zero, List.set_cons_succ]
              refine takeL (i := 8) (v := ?_) rfl (by kernel_rfl) (by kernel_rfl) (by kernel_rfl) (fun _ _ _ h => h) (Or.inl ⟨by rfl, ?_⟩) hHeld ?_
              rotate_left
              focus (intro wq hSw; have hRun := hS5 wq; clear hSw; go_simp; try with_reducible rfl)
              try simp only [Act.put, List.setIfInBounds_toArray, List.set_cons_zero, List.set_cons_succ]
              refine wpAnyH_ready (rs := [9]) (by kernel_rfl) (by simp) ?_
              refine consL rfl (fun K hK => ?_) AllReadyH.nil
              go_simp
              refine (HH.out.2.2.2.2.1 _ (HH.out.2.2.1.below hHeld) (HH.out.2.2.2.1.below hHeld) (HH.out.2.1.below hHeld)).mono ?_
              rintro e w1 ⟨A6, n6, c6, rfl, hR6, hB6⟩
              have hb1 : Old w w1 := Old.trans hHeld hB6
              have hR6 := hR6.rd
              clear hB6
              refine hK.out _ _ hb1 (fun hHeld => ?_)
              clear hK K
              try simp only [Act.put, List.setIfInBounds_toArray, List.set_cons_zero, List.set_cons_succ]
              refine wpAnyH_old (w1 := w1) hb1 (fun hHeld => ?_) (Old.refl _)
              refine takeL (i := 10) (v := ?_) rfl (by kernel_rfl) (by kernel_rfl) (by kernel_rfl) (fun _ _ _ h => h) (Or.inl ⟨by rfl, ?_⟩) hHeld ?_
              rotate_left
              focus (intro wq hSw; clear hSw; go_simp; try with_reducible rfl)
              try simp only [Act.put, List.setIfInBounds_toArray, List.set_cons_zero, List.set_cons_succ]
              refine wpAnyH_done (by kernel_rfl) ?_ _
              refine NoPanic.normal ?_
              simp only [Exit.then]
              clear hHeld HSz
              have H1 := Lib.hid (And.intro hR6 hb1)
              clear hR6 hb1
              go_wp2_with fail
              refine (HH.out.2.2.2.2.2.1 A6 n6 c6 w1 H1.out.1 (HH.out.2.2.1.below H1.out.2) (HH.out.2.1.below H1.out.2)).mono ?_
              rintro e w2 ⟨A7, n7, c7, rfl, hR7, hB7⟩
              have hn7 := hR7.len
              rw [HH.out.2.2.2.2.2.2.2.1] at hn7
              obtain ⟨A8, n8, c8, hn8, hS8, hR8, _⟩ := hR7.rd.cut_ex2 (k := N) (by rw [hn7]; exact HH.out.2.2.2.2.2.2.2.2.1)
              obtain ⟨hS9, hR9⟩ := hR7.rd.cut_to (k := N) (by rw [hn7]; exact HH.out.2.2.2.2.2.2.2.2.1)
              have H2 := Lib.hid (And.intro hR8 (And.intro hR9 (And.intro (Old.trans H1.out.2 hB7) (show n8 ≤ 1000 by have := HH.out.2.2.2.2.2.2.2.2.2; omega))))
              clear hR7 hB7 hn7 hn8 hR8 hR9
              go_wp2_with fail
              refine (trimL_any A8 n8 c8 _ w2 H2.out.1 (by have := H2.out.2.2.2; omega)).mono ?_
              rintro e w3 ⟨A10, n10, c10, rfl, hR10, rfl⟩
              rw [hTT] at hR10
              have hn10 : n10 = r.length + 1 := hR10.1
              have h10p : 0 < n10 := by omega
              have h10b : ((n10 : Int) == 0) = false := by simp; omega
              obtain ⟨bt, ot, rfl, _⟩ := hR10.addr (by omega)
              have HT := Lib.hid hR10
              have hk10 : r.length + 1 ≤ 1000 := by
                have h5 := trimZ_le (DB.drop N)
                rw [hTT, List.length_cons, List.length_drop] at h5
                have h6 := HH.out.2.2.2.2.2.2.2.1
                have h7 := HH.out.2.2.2.2.2.2.2.2.2
                omega
              obtain ⟨A12, n12, c12, hn12, hS12, hR12, _⟩ := hR10.cut_ex2 (k := 1) (by omega)
              rw [show ((1 : Nat) : Int) = 1 from rfl] at hS12
              have H12 := Lib.hid (And.intro hR12 (show n12 ≤ 1000 by omega))
              clear hR12 hn12 hk10
              clear hR10 hn10
              go_wp2_with fail
              refine region_old (by kernel_rfl) (fun wd hHeld hSz => ?_)
              have HSz := Lib.hid hSz
              clear hSz
              refine takeL (i := 0) (v := ?_) rfl (by kernel_rfl) (by kernel_rfl) (by kernel_rfl) (fun _ _ _ h => h) (Or.inl ⟨by rfl, ?_⟩) hHeld ?_
              rotate_left
              focus (intro wq hSw; clear hSw; go_simp; try with_reducible rfl)
              try simp only [Act.put, List.setIfInBounds_toArray, List.set_cons_zero, List.set_cons_succ]
              refine takeL (i := 1) (v := ?_) rfl (by kernel_rfl) (by kernel_rfl) (by kernel_rfl) (fun _ _ _ h => h) (Or.inl ⟨by rfl, ?_⟩) hHeld ?_
              rotate_left
              focus (intro wq hSw; clear hSw; go_simp; try with_reducible rfl)
              try simp only [Act.put, List.setIfInBounds_toArray, List.set_cons_zero, List.set_cons_succ]
              refine takeL (i := 2) (v := ?_) rfl (by kernel_rfl) (by kernel_rfl) (by kernel_rfl) (fun _ _ _ h => h) (Or.inl ⟨by rfl, ?_⟩) hHeld ?_
              rotate_left
              focus (intro wq hSw; have hRun := hS9 wq; clear hSw; go_simp; try with_reducible rfl)
              try simp only [Act.put, List.setIfInBounds_toArray, List.set_cons_zero, List.set_cons_succ]
              refine takeL (i := 3) (v := ?_) rfl (by kernel_rfl) (by kernel_rfl) (by kernel_rfl) (fun _ _ _ h => h) (Or.inl ⟨by rfl, ?_⟩) hHeld ?_
              rotate_left
              focus (intro wq hSw; clear hSw; go_simp; try with_reducible rfl)
              try simp only [Act.put, List.setIfInBounds_toArray, List.set_cons_zero, List.set_cons_succ]
              refine takeL (i := 4) (v := ?_) rfl (by kernel_rfl) (by kernel_rfl) (by kernel_rfl) (fun _ _ _ h => h) (Or.inl ⟨by rfl, ?_⟩) hHeld ?_
              rotate_left
              focus (intro wq hSw; clear hSw; go_simp; try with_reducible rfl)
              try simp only [Act.put, List.setIfInBounds_toArray, List.set_cons_zero, List.set_cons_succ]
              refine wpAnyH_ready (rs := [5]) (by kernel_rfl) (by simp) ?_
              refine consL rfl (fun K hK => ?_) AllReadyH.nil
              go_simp
              have hA : Old w2 (wd.alloc (.cells #[.slice A1 m1 c1] 22)) := Old.alloc hHeld _
              refine hK.out _ _ hA (fun hHeld => ?_)
              clear hK K
              try simp only [Act.put, List.setIfInBounds_toArray, List.set_cons_zero, List.set_cons_succ]
              refine wpAnyH_ready (rs := [6]) (by kernel_rfl) (by simp) ?_
              refine consL rfl (fun K hK => ?_) AllReadyH.nil
              go_simp
              refine (HH.out.2.2.2.2.2.2.1 _ _ _ (rd_one (Blk.new _ _ _) (HH.out.1.below (Old.trans H2.out.2.2.1 hA))) (HH.out.2.1.below (Old.trans H2.out.2.2.1 hA))).mono ?_
              rintro e w4 ⟨A11, n11, c11, rfl, hR11, hB11⟩
              have hb4 : Old w2 w4 := Old.trans hA hB11
              have hR11 := hR11.rd
              clear hB11
              refine hK.out _ _ hb4 (fun hHeld => ?_)
              clear hK K
              try simp only [Act.put, List.setIfInBounds_toArray, List.set_cons_zero, List.set_cons_succ]
              refine wpAnyH_old (w1 := w4) hb4 (fun hHeld => ?_) (Old.refl _)
              refine wpAnyH_ready (rs := [7]) (by kernel_rfl) (by simp) ?_
              refine consL rfl (fun K hK => ?_) AllReadyH.nil
              go_simp
              refine (equalB_any _ _ _ _ _ _ _ _ _ (H2.out.2.1.below hb4) hR11).mono ?_
              rintro e w5 ⟨rfl, rfl⟩
              refine hK.out _ _ (Old.refl _) (fun hHeld => ?_)
              clear hK K
              try simp only [Act.put, List.setIfInBounds_toArray, List.set_cons_zero, List.set_cons_succ]
              refine takeL (i := 8) (v := ?_) rfl (by kernel_rfl) (by kernel_rfl) (by kernel_rfl) (fun _ _ _ h => h) (Or.inl ⟨by rfl, ?_⟩) hHeld ?_
              rotate_left
              focus (intro wq hSw; clear hSw; go_simp; try with_reducible rfl)
              try simp only [Act.put, List.setIfInBounds_toArray, List.set_cons_zero, List.set_cons_succ]
              refine takeL (i := 9) (v := .bool false) rfl (by kernel_rfl) (by kernel_rfl) (by kernel_rfl) (fun _ _ _ h => h) (Or.inl ⟨by rfl, ?_⟩) hHeld ?_
              focus (intro wq hSw; clear hSw; go_simp; try with_reducible rfl)
              try simp only [Act.put, List.setIfInBounds_toArray, List.set_cons_zero, List.set_cons_succ]
              refine takeL (i := 10) (v := ?_) rfl (by kernel_rfl) (by kernel_rfl) (by kernel_rfl) (fun _ _ _ h => h) (Or.inl ⟨by rfl, ?_⟩) hHeld ?_
              rotate_left
              focus (intro wq hSw; clear hSw; go_simp; try with_reducible rfl)
              try simp only [Act.put, List.setIfInBounds_toArray, List.set_cons_zero, List.set_cons_succ]
              refine takeL (i := 11) (v := ?_) rfl (by kernel_rfl) (by kernel_rfl) (by kernel_rfl) (fun _ _ _ h => h) (Or.inl ⟨by rfl, ?_⟩) hHeld ?_
              rotate_left
              focus (intro wq hSw; clear hSw; go_simp; try with_reducible rfl)
              try simp only [Act.put, List.setIfInBounds_toArray, List.set_cons_zero, List.set_cons_succ]
              refine takeL (i := 12) (v := ?_) rfl (by kernel_rfl) (by kernel_rfl) (by kernel_rfl) (fun _ _ _ h => h) (Or.inl ⟨by rfl, ?_⟩) hHeld ?_
              rotate_left
              focus (intro wq hSw; clear hSw; go_simp; try with_reducible rfl)
              try simp only [Act.put, List.setIfInBounds_toArray, List.set_cons_zero, List.set_cons_succ]
              refine takeL (i := 13) (v := ?_) rfl (by kernel_rfl) (by kernel_rfl) (by kernel_rfl) (fun _ _ _ h => h) (Or.inl ⟨by rfl, ?_⟩) hHeld ?_
              rotate_left
              focus (intro wq hSw; clear hSw; go_simp; try with_reducible rfl)
              try simp only [Act.put, List.setIfInBounds_toArray, List.set_cons_zero, List.set_cons_succ]
              refine takeL (i := 14) (v := .bool false) rfl (by kernel_rfl) (by kernel_rfl) (by kernel_rfl) (fun _ _ _ h => h) (Or.inl ⟨by rfl, ?_⟩) hHeld ?_
              focus (intro wq hSw; clear hSw; go_simp; try with_reducible rfl)
              try simp only [Act.put, List.setIfInBounds_toArray, List.set_cons_zero, List.set_cons_succ]
              refine takeL (i := 15) (v := ?_) rfl (by kernel_rfl) (by kernel_rfl) (by kernel_rfl) (fun _ _ _ h => h) (Or.inl ⟨by rfl, ?_⟩) hHeld ?_
              rotate_left
              focus (intro wq hSw; clear hSw; go_simp; try with_reducible rfl)
              try simp only [Act.put, List.setIfInBounds_toArray, List.set_cons_zero, List.set_cons_succ]
              refine takeL (i := 16) (v := ?_) rfl (by kernel_rfl) (by kernel_rfl) (by kernel_rfl) (fun _ _ _ h => h) (Or.inl ⟨by rfl, ?_⟩) hHeld ?_
              rotate_left
              focus (intro wq hSw; clear hSw; go_simp; try with_reducible rfl)
              try simp only [Act.put, List.setIfInBounds_toArray, List.set_cons_zero, List.set_cons_succ]
              refine takeL (i := 17) (v := ?_) rfl (by kernel_rfl) (by kernel_rfl) (by kernel_rfl) (fun _ _ _ h => h) (Or.inl ⟨by rfl, ?_⟩) hHeld ?_
              rotate_left
              focus (intro wq hSw; have hy := rd_head (HT.out.below (Old.trans hb4 hSw)); clear hSw; go_simp; try with_reducible rfl)
              try simp only [Act.put, List.setIfInBounds_toArray, List.set_cons_zero, List.set_cons_succ]
              refine takeL (i := 18) (v := ?_) rfl (by kernel_rfl) (by kernel_rfl) (by kernel_rfl) (fun _ _ _ h => h) (Or.inl ⟨by rfl, ?_⟩) hHeld ?_
              rotate_left
              focus (intro wq hSw; clear hSw; go_simp; try with_reducible rfl)
              try simp only [Act.put, List.setIfInBounds_toArray, List.set_cons_zero, List.set_cons_succ]
              refine takeL (i := 19) (v := ?_) rfl (by kernel_rfl) (by kernel_rfl) (by kernel_rfl) (fun _ _ _ h => h) (Or.inl ⟨by rfl, ?_⟩) hHeld ?_
              rotate_left
              focus (intro wq hSw; clear hSw; go_simp; try with_reducible rfl)
              try simp only [Act.put, List.setIfInBounds_toArray, List.set_cons_zero, List.set_cons_succ]
              refine wpAnyH_done (by kernel_rfl) ?_ _
              refine NoPanic.normal ?_
              simp only [Exit.then]
              go_wp2_with fail
              refine (pclone_own A12 n12 c12 _ w4 (H12.out.1.below hb4) (by have := H12.out.2; omega)).mono ?_
              rintro e w6 ⟨A13, n13, c13, rfl, hR13, hB13⟩
              go_wp2_with fail
              refine bodyPost_ret (results_tmp2 rfl _ _ _) rfl ?_
              exact ⟨_, _, _, rfl, hR13.rd, Old.trans (Old.trans H2.out.2.2.1 hb4) hB13⟩
            · show Calls _ _ _ _ (PRes w (match (if x = 1 then some r else none) with | none => ([], 64) | some m => (m, 0)))
              rw [if_neg e2]
              have f2 : isN x 1 = false := by unfold isN; simp only [beq_eq_false_iff_ne]; exact fun h => e2 (UInt8.toNat_inj.1 (by exact_mod_cast h))
              show Calls _ _ _ _ (PRes w ([], 64))
              go_enter Tryd.func18, Tryd.ntmps18
              go_wp2_with fail
              refine HS.out.mono ?_
              rintro e w' ⟨rfl, rfl⟩
              go_wp2_with fail
              refine region_old (by kernel_rfl) (fun wd hHeld hSz => ?_)
              have HSz := Lib.hid hSz
              clear hSz
              refine takeL (i := 0) (v := ?_) rfl (by kernel_rfl) (by kernel_rfl) (by kernel_rfl) (fun _ _ _ h => h) (Or.inl ⟨by rfl, ?_⟩) hHeld ?_
              rotate_left
              focus (intro wq hSw; clear hSw; go_simp; try with_reducible rfl)
              try simp only [Act.put, List.setIfInBounds_toArray, List.set_cons_zero, List.set_cons_succ]
              refine takeL (i := 1) (v := ?_) rfl (by kernel_rfl) (by kernel_rfl) (by kernel_rfl) (fun _ _ _ h => h) (Or.inl ⟨by rfl, ?_⟩) hHeld ?_
              rotate_left
              focus (intro wq hSw; clear hSw; go_simp; try with_reducible rfl)
              try simp only [Act.put, List.setIfInBounds_toArray, List.set_cons_zero, List.set_cons_succ]
              refine takeL (i := 2) (v := ?_) rfl (by kernel_rfl) (by kernel_rfl) (by kernel_rfl) (fun _ _ _ h => h) (Or.inl ⟨by rfl, ?_⟩) hHeld ?_
              rotate_left
              focus (intro wq hSw; clear hSw; go_simp; try with_reducible rfl)
              try simp only [Act.put, List.setIfInBounds_toArray, List.set_cons_zero, List.set_cons_succ]
              refine takeL (i := 3) (v := ?_) rfl (by kernel_rfl) (by kernel_rfl) (by kernel_rfl) (fun _ _ _ h => h) (Or.inl ⟨by rfl, ?_⟩) hHeld ?_
              rotate_left
              focus (intro wq hSw; clear hSw; go_simp; try with_reducible rfl)
              try simp only [Act.put, List.setIfInBounds_toArray, List.set_cons_zero, List.set_cons_succ]
              refine takeL (i := 4) (v := ?_) rfl (by kernel_rfl) (by kernel_rfl) (by kernel_rfl) (fun _ _ _ h => h) (Or.inl ⟨by rfl, ?_⟩) hHeld ?_
              rotate_left
              focus (intro wq hSw; have hRun := hS4 wq; clear hSw; go_simp; try with_reducible rfl)
              try simp only [Act.put, List.setIfInBounds_toArray, List.set_cons_zero, List.set_cons_succ]
              refine takeL (i := 5) (v := ?_) rfl (by kernel_rfl) (by kernel_rfl) (by kernel_rfl) (fun _ _ _ h => h) (Or.inl ⟨by rfl, ?_⟩) hHeld ?_
              rotate_left
              focus (intro wq hSw; clear hSw; go_simp; try with_reducible rfl)
              try simp only [Act.put, List.setIfInBounds_toArray, List.set_cons_zero, List.set_cons_succ]
              refine takeL (i := 6) (v := ?_) rfl (by kernel_rfl) (by kernel_rfl) (by kernel_rfl) (fun _ _ _ h => h) (Or.inl ⟨by rfl, ?_⟩) hHeld ?_
              rotate_left
              focus (intro wq hSw; clear hSw; go_simp; try with_reducible rfl)
              try simp only [Act.put, List.setIfInBounds_toArray, List.set_cons_zero, List.set_cons_succ]
              refine takeL (i := 7) (v := ?_) rfl (by kernel_rfl) (by kernel_rfl) (by kernel_rfl) (fun _ _ _ h => h) (Or.inl ⟨by rfl, ?_⟩) hHeld ?_
              rotate_left
              focus (intro wq hSw; clear hSw; go_simp; try with_reducible rfl)
              try simp only [Act.put, List.setIfInBounds_toArray, List.set_cons_zero, List.set_cons_succ]
              refine takeL (i := 8) (v := ?_) rfl (by kernel_rfl) (by kernel_rfl) (by kernel_rfl) (fun _ _ _ h => h) (Or.inl ⟨by rfl, ?_⟩) hHeld ?_
              rotate_left
              focus (intro wq hSw; have hRun := hS5 wq; clear hSw; go_simp; try with_reducible rfl)
              try simp only [Act.put, List.setIfInBounds_toArray, List.set_cons_zero, List.set_cons_succ]
              refine wpAnyH_ready (rs := [9]) (by kernel_rfl) (by simp) ?_
              refine consL rfl (fun K hK => ?_) AllReadyH.nil
              go_simp
              refine (HH.out.2.2.2.2.1 _ (HH.out.2.2.1.below hHeld) (HH.out.2.2.2.1.below hHeld) (HH.out.2.1.below hHeld)).mono ?_
              rintro e w1 ⟨A6, n6, c6, rfl, hR6, hB6⟩
              have hb1 : Old w w1 := Old.trans hHeld hB6
              have hR6 := hR6.rd
              clear hB6
              refine hK.out _ _ hb1 (fun hHeld => ?_)
              clear hK K
              try simp only [Act.put, List.setIfInBounds_toArray, List.set_cons_zero, List.set_cons_succ]
              refine wpAnyH_old (w1 := w1) hb1 (fun hHeld => ?_) (Old.refl _)
              refine takeL (i := 10) (v := ?_) rfl (by kernel_rfl) (by kernel_rfl) (by kernel_rfl) (fun _ _ _ h => h) (Or.inl ⟨by rfl, ?_⟩) hHeld ?_
              rotate_left
              focus (intro wq hSw; clear hSw; go_simp; try with_reducible rfl)
              try simp only [Act.put, List.setIfInBounds_toArray, List.set_cons_zero, List.set_cons_succ]
              refine wpAnyH_done (by kernel_rfl) ?_ _
              refine NoPanic.normal ?_
              simp only [Exit.then]
              clear hHeld HSz
              have H1 := Lib.hid (And.intro hR6 hb1)
              clear hR6 hb1
              go_wp2_with fail
              refine (HH.out.2.2.2.2.2.1 A6 n6 c6 w1 H1.out.1 (HH.out.2.2.1.below H1.out.2) (HH.out.2.1.below H1.out.2)).mono ?_
              rintro e w2 ⟨A7, n7, c7, rfl, hR7, hB7⟩
              have hn7 := hR7.len
              rw [HH.out.2.2.2.2.2.2.2.1] at hn7
              obtain ⟨A8, n8, c8, hn8, hS8, hR8, _⟩ := hR7.rd.cut_ex2 (k := N) (by rw [hn7]; exact HH.out.2.2.2.2.2.2.2.2.1)
              obtain ⟨hS9, hR9⟩ := hR7.rd.cut_to (k := N) (by rw [hn7]; exact HH.out.2.2.2.2.2.2.2.2.1)
              have H2 := Lib.hid (And.intro hR8 (And.intro hR9 (And.intro (Old.trans H1.out.2 hB7) (show n8 ≤ 1000 by have := HH.out.2.2.2.2.2.2.2.2.2; omega))))
              clear hR7 hB7 hn7 hn8 hR8 hR9
              go_wp2_with fail
              refine (trimL_any A8 n8 c8 _ w2 H2.out.1 (by have := H2.out.2.2.2; omega)).mono ?_
              rintro e w3 ⟨A10, n10, c10, rfl, hR10, rfl⟩
              rw [hTT] at hR10
              have hn10 : n10 = r.length + 1 := hR10.1
              have h10p : 0 < n10 := by omega
              have h10b : ((n10 : Int) == 0) = false := by simp; omega
              obtain ⟨bt, ot, rfl, _⟩ := hR10.addr (by omega)
              have HT := Lib.hid hR10
              clear hR10 hn10
              go_wp2_with fail
              refine region_old (by kernel_rfl) (fun wd hHeld hSz => ?_)
              have HSz := Lib.hid hSz
              clear hSz
              refine takeL (i := 0) (v := ?_) rfl (by kernel_rfl) (by kernel_rfl) (by kernel_rfl) (fun _ _ _ h => h) (Or.inl ⟨by rfl, ?_⟩) hHeld ?_
              rotate_left
              focus (intro wq hSw; clear hSw; go_simp; try with_reducible rfl)
              try simp only [Act.put, List.setIfInBounds_toArray, List.set_cons_zero, List.set_cons_succ]
              refine takeL (i := 1) (v := ?_) rfl (by kernel_rfl) (by kernel_rfl) (by kernel_rfl) (fun _ _ _ h => h) (Or.inl ⟨by rfl, ?_⟩) hHeld ?_
              rotate_left
              focus (intro wq hSw; clear hSw; go_simp; try with_reducible rfl)
              try simp only [Act.put, List.setIfInBounds_toArray, List.set_cons_zero, List.set_cons_succ]
              refine takeL (i := 2) (v := ?_) rfl (by kernel_rfl) (by kernel_rfl) (by kernel_rfl) (fun _ _ _ h => h) (Or.inl ⟨by rfl, ?_⟩) hHeld ?_
              rotate_left
              focus (intro wq hSw; have hRun := hS9 wq; clear hSw; go_simp; try with_reducible rfl)
              try simp only [Act.put, List.setIfInBounds_toArray, List.set_cons_zero, List.set_cons_succ]
              refine takeL (i := 3) (v := ?_) rfl (by kernel_rfl) (by kernel_rfl) (by kernel_rfl) (fun _ _ _ h => h) (Or.inl ⟨by rfl, ?_⟩) hHeld ?_
              rotate_left
              focus (intro wq hSw; clear hSw; go_simp; try with_reducible rfl)
              try simp only [Act.put, List.setIfInBounds_toArray, List.set_cons_zero, List.set_cons_succ]
              refine takeL (i := 4) (v := ?_) rfl (by kernel_rfl) (by kernel_rfl) (by kernel_rfl) (fun _ _ _ h => h) (Or.inl ⟨by rfl, ?_⟩) hHeld ?_
              rotate_left
              focus (intro wq hSw; clear hSw; go_simp; try with_reducible rfl)
              try simp only [Act.put, List.setIfInBounds_toArray, List.set_cons_zero, List.set_cons_succ]
              refine wpAnyH_ready (rs := [5]) (by kernel_rfl) (by simp) ?_
              refine consL rfl (fun K hK => ?_) AllReadyH.nil
              go_simp
              have hA : Old w2 (wd.alloc (.cells #[.slice A1 m1 c1] 22)) := Old.alloc hHeld _
              refine hK.out _ _ hA (fun hHeld => ?_)
              clear hK K
              try simp only [Act.put, List.setIfInBounds_toArray, List.set_cons_zero, List.set_cons_succ]
              refine wpAnyH_ready (rs := [6]) (by kernel_rfl) (by simp) ?_
              refine consL rfl (fun K hK => ?_) AllReadyH.nil
              go_simp
              refine (HH.out.2.2.2.2.2.2.1 _ _ _ (rd_one (Blk.new _ _ _) (HH.out.1.below (Old.trans H2.out.2.2.1 hA))) (HH.out.2.1.below (Old.trans H2.out.2.2.1 hA))).mono ?_
              rintro e w4 ⟨A11, n11, c11, rfl, hR11, hB11⟩
              have hb4 : Old w2 w4 := Old.trans hA hB11
              have hR11 := hR11.rd
              clear hB11
              refine hK.out _ _ hb4 (fun hHeld => ?_)
              clear hK K
              try simp only [Act.put, List.setIfInBounds_toArray, List.set_cons_zero, List.set_cons_succ]
              refine wpAnyH_old (w1 := w4) hb4 (fun hHeld => ?_) (Old.refl _)
              refine wpAnyH_ready (rs := [7]) (by kernel_rfl) (by simp) ?_
              refine consL rfl (fun K hK => ?_) AllReadyH.nil
              go_simp
              refine (equalB_any _ _ _ _ _ _ _ _ _ (H2.out.2.1.below hb4) hR11).mono ?_
              rintro e w5 ⟨rfl, rfl⟩
              refine hK.out _ _ (Old.refl _) (fun hHeld => ?_)
              clear hK K
              try simp only [Act.put, List.setIfInBounds_toArray, List.set_cons_zero, List.set_cons_succ]
              refine takeL (i := 8) (v := ?_) rfl (by kernel_rfl) (by kernel_rfl) (by kernel_rfl) (fun _ _ _ h => h) (Or.inl ⟨by rfl, ?_⟩) hHeld ?_
              rotate_left
              focus (intro wq hSw; clear hSw; go_simp; try with_reducible rfl)
              try simp only [Act.put, List.setIfInBounds_toArray, List.set_cons_zero, List.set_cons_succ]
              refine takeL (i := 9) (v := .bool false) rfl (by kernel_rfl) (by kernel_rfl) (by kernel_rfl) (fun _ _ _ h => h) (Or.inl ⟨by rfl, ?_⟩) hHeld ?_
              focus (intro wq hSw; clear hSw; go_simp; try with_reducible rfl)
              try simp only [Act.put, List.setIfInBounds_toArray, List.set_cons_zero, List.set_cons_succ]
              refine takeL (i := 10) (v := ?_) rfl (by kernel_rfl) (by kernel_rfl) (by kernel_rfl) (fun _ _ _ h => h) (Or.inl ⟨by rfl, ?_⟩) hHeld ?_
              rotate_left
              focus (intro wq hSw; clear hSw; go_simp; try with_reducible rfl)
              try simp only [Act.put, List.setIfInBounds_toArray, List.set_cons_zero, List.set_cons_succ]
              refine takeL (i := 11) (v := ?_) rfl (by kernel_rfl) (by kernel_rfl) (by kernel_rfl) (fun _ _ _ h => h) (Or.inl ⟨by rfl, ?_⟩) hHeld ?_
              rotate_left
              focus (intro wq hSw; clear hSw; go_simp; try with_reducible rfl)
              try simp only [Act.put, List.setIfInBounds_toArray, List.set_cons_zero, List.set_cons_succ]
              refine takeL (i := 12) (v := ?_) rfl (by kernel_rfl) (by kernel_rfl) (by kernel_rfl) (fun _ _ _ h => h) (Or.inl ⟨by rfl, ?_⟩) hHeld ?_
              rotate_left
              focus (intro wq hSw; clear hSw; go_simp; try with_reducible rfl)
              try simp only [Act.put, List.setIfInBounds_toArray, List.set_cons_zero, List.set_cons_succ]
              refine takeL (i := 13) (v := ?_) rfl (by kernel_rfl) (by kernel_rfl) (by kernel_rfl) (fun _ _ _ h => h) (Or.inl ⟨by rfl, ?_⟩) hHeld ?_
              rotate_left
              focus (intro wq hSw; clear hSw; go_simp; try with_reducible rfl)
              try simp only [Act.put, List.setIfInBounds_toArray, List.set_cons_zero, List.set_cons_succ]
              refine takeL (i := 14) (v := .bool false) rfl (by kernel_rfl) (by kernel_rfl) (by kernel_rfl) (fun _ _ _ h => h) (Or.inl ⟨by rfl, ?_⟩) hHeld ?_
              focus (intro wq hSw; clear hSw; go_simp; try with_reducible rfl)
              try simp only [Act.put, List.setIfInBounds_toArray, List.set_cons_zero, List.set_cons_succ]
              refine takeL (i := 15) (v := ?_) rfl (by kernel_rfl) (by kernel_rfl) (by kernel_rfl) (fun _ _ _ h => h) (Or.inl ⟨by rfl, ?_⟩) hHeld ?_
              rotate_left
              focus (intro wq hSw; clear hSw; go_simp; try with_reducible rfl)
              try simp only [Act.put, List.setIfInBounds_toArray, List.set_cons_zero, List.set_cons_succ]
              refine takeL (i := 16) (v := ?_) rfl (by kernel_rfl) (by kernel_rfl) (by kernel_rfl) (fun _ _ _ h => h) (Or.inl ⟨by rfl, ?_⟩) hHeld ?_
              rotate_left
              focus (intro wq hSw; clear hSw; go_simp; try with_reducible rfl)
              try simp only [Act.put, List.setIfInBounds_toArray, List.set_cons_zero, List.set_cons_succ]
              refine takeL (i := 17) (v := ?_) rfl (by kernel_rfl) (by kernel_rfl) (by kernel_rfl) (fun _ _ _ h => h) (Or.inl ⟨by rfl, ?_⟩) hHeld ?_
              rotate_left
              focus (intro wq hSw; have hy := rd_head (HT.out.below (Old.trans hb4 hSw)); clear hSw; go_simp; try with_reducible rfl)
              try simp only [Act.put, List.setIfInBounds_toArray, List.set_cons_zero, List.set_cons_succ]
              refine takeL (i := 18) (v := ?_) rfl (by kernel_rfl) (by kernel_rfl) (by kernel_rfl) (fun _ _ _ h => h) (Or.inl ⟨by rfl, ?_⟩) hHeld ?_
              rotate_left
              focus (intro wq hSw; clear hSw; go_simp; try with_reducible rfl)
              try simp only [Act.put, List.setIfInBounds_toArray, List.set_cons_zero, List.set_cons_succ]
              refine takeL (i := 19) (v := ?_) rfl (by kernel_rfl) (by kernel_rfl) (by kernel_rfl) (fun _ _ _ h => h) (Or.inl ⟨by rfl, ?_⟩) hHeld ?_
              rotate_left
              focus (intro wq hSw; clear hSw; go_simp; try with_reducible rfl)
              try simp only [Act.put, List.setIfInBounds_toArray, List.set_cons_zero, List.set_cons_succ]
              refine wpAnyH_done (by kernel_rfl) ?_ _
              refine NoPanic.normal ?_
              simp only [Exit.then]
              go_wp2_with fail
              refine bodyPost_ret (results_tmp2 rfl _ _ _) rfl ?_
              exact ⟨none, 0, 0, rfl, Rd.nil _, Old.trans H2.out.2.2.1 hb4⟩
        · rw [if_neg e1]
          have f1 : decide (DB.take N = LH) = false := decide_eq_false e1
          obtain ⟨TT, hTT⟩ : ∃ T, trimZ (DB.drop N) = T := ⟨_, rfl⟩
          show Calls _ _ _ _ (PRes w ([], 64))
          go_enter Tryd.func18, Tryd.ntmps18
          go_wp2_with fail
          refine HS.out.mono ?_
          rintro e w' ⟨rfl, rfl⟩
          go_wp2_with fail
          refine region_old (by kernel_rfl) (fun wd hHeld hSz => ?_)
          have HSz := Lib.hid hSz
          clear hSz
          refine takeL (i := 0) (v := ?_) rfl (by kernel_rfl) (by kernel_rfl) (by kernel_rfl) (fun _ _ _ h => h) (Or.inl ⟨by rfl, ?_⟩) hHeld ?_
          rotate_left
          focus (intro wq hSw; clear hSw; go_simp; try with_reducible rfl)
          try simp only [Act.put, List.setIfInBounds_toArray, List.set_cons_zero, List.set_cons_succ]
          refine takeL (i := 1) (v := ?_) rfl (by kernel_rfl) (by kernel_rfl) (by kernel_rfl) (fun _ _ _ h => h) (Or.inl ⟨by rfl, ?_⟩) hHeld ?_
          rotate_left
          focus (intro wq hSw; clear hSw; go_simp; try with_reducible rfl)
          try simp only [Act.put, List.setIfInBounds_toArray, List.set_cons_zero, List.set_cons_succ]
          refine takeL (i := 2) (v := ?_) rfl (by kernel_rfl) (by kernel_rfl) (by kernel_rfl) (fun _ _ _ h => h) (Or.inl ⟨by rfl, ?_⟩) hHeld ?_
          rotate_left
          focus (intro wq hSw; clear hSw; go_simp; try with_reducible rfl)
          try simp only [Act.put, List.setIfInBounds_toArray, List.set_cons_zero, List.set_cons_succ]
          refine takeL (i := 3) (v := ?_) rfl (by kernel_rfl) (by kernel_rfl) (by kernel_rfl) (fun _ _ _ h => h) (Or.inl ⟨by rfl, ?_⟩) hHeld ?_
          rotate_left
          focus (intro wq hSw; clear hSw; go_simp; try with_reducible rfl)
          try simp only [Act.put, List.setIfInBounds_toArray, List.set_cons_zero, List.set_cons_succ]
          refine takeL (i := 4) (v := ?_) rfl (by kernel_rfl) (by kernel_rfl) (by kernel_rfl) (fun _ _ _ h => h) (Or.inl ⟨by rfl, ?_⟩) hHeld ?_
          rotate_left
          focus (intro wq hSw; have hRun := hS4 wq; clear hSw; go_simp; try with_reducible rfl)
          try simp only [Act.put, List.setIfInBounds_toArray, List.set_cons_zero, List.set_cons_succ]
          refine takeL (i := 5) (v := ?_) rfl (by kernel_rfl) (by kernel_rfl) (by kernel_rfl) (fun _ _ _ h => h) (Or.inl ⟨by rfl, ?_⟩) hHeld ?_
          rotate_left
          focus (intro wq hSw; clear hSw; go_simp; try with_reducible rfl)
          try simp only [Act.put, List.setIfInBounds_toArray, List.set_cons_zero, List.set_cons_succ]
          refine takeL (i := 6) (v := ?_) rfl (by kernel_rfl) (by kernel_rfl) (by kernel_rfl) (fun _ _ _ h => h) (Or.inl ⟨by rfl, ?_⟩) hHeld ?_
          rotate_left
          focus (intro wq hSw; clear hSw; go_simp; try with_reducible rfl)
          try simp only [Act.put, List.setIfInBounds_toArray, List.set_cons_zero, List.set_cons_succ]
          refine takeL (i := 7) (v := ?_) rfl (by kernel_rfl) (by kernel_rfl) (by kernel_rfl) (fun _ _ _ h => h) (Or.inl ⟨by rfl, ?_⟩) hHeld ?_
          rotate_left
          focus (intro wq hSw; clear hSw; go_simp; try with_reducible rfl)
          try simp only [Act.put, List.setIfInBounds_toArray, List.set_cons_zero, List.set_cons_succ]
          refine takeL (i := 8) (v := ?_) rfl (by kernel_rfl) (by kernel_rfl) (by kernel_rfl) (fun _ _ _ h => h) (Or.inl ⟨by rfl, ?_⟩) hHeld ?_
          rotate_left
          focus (intro wq hSw; have hRun := hS5 wq; clear hSw; go_simp; try with_reducible rfl)
          try simp only [Act.put, List.setIfInBounds_toArray, List.set_cons_zero, List.set_cons_succ]
          refine wpAnyH_ready (rs := [9]) (by kernel_rfl) (by simp) ?_
          refine consL rfl (fun K hK => ?_) AllReadyH.nil
          go_simp
          refine (HH.out.2.2.2.2.1 _ (HH.out.2.2.1.below hHeld) (HH.out.2.2.2.1.below hHeld) (HH.out.2.1.below hHeld)).mono ?_
          rintro e w1 ⟨A6, n6, c6, rfl, hR6, hB6⟩
          have hb1 : Old w w1 := Old.trans hHeld hB6
          have hR6 := hR6.rd
          clear hB6
          refine hK.out _ _ hb1 (fun hHeld => ?_)
          clear hK K
          try simp only [Act.put, List.setIfInBounds_toArray, List.set_cons_zero, List.set_cons_succ]
          refine wpAnyH_old (w1 := w1) hb1 (fun hHeld => ?_) (Old.refl _)
          refine takeL (i := 10) (v := ?_) rfl (by kernel_rfl) (by kernel_rfl) (by kernel_rfl) (fun _ _ _ h => h) (Or.inl ⟨by rfl, ?_⟩) hHeld ?_
          rotate_left
          focus (intro wq hSw; clear hSw; go_simp; try with_reducible rfl)
          try simp only [Act.put, List.setIfInBounds_toArray, List.set_cons_zero, List.set_cons_succ]
          refine wpAnyH_done (by kernel_rfl) ?_ _
          refine NoPanic.normal ?_
          simp only [Exit.then]
          clear hHeld HSz
          have H1 := Lib.hid (And.intro hR6 hb1)
          clear hR6 hb1
          go_wp2_with fail
          refine (HH.out.2.2.2.2.2.1 A6 n6 c6 w1 H1.out.1 (HH.out.2.2.1.below H1.out.2) (HH.out.2.1.below H1.out.2)).mono ?_
          rintro e w2 ⟨A7, n7, c7, rfl, hR7, hB7⟩
          have hn7 := hR7.len
          rw [HH.out.2.2.2.2.2.2.2.1] at hn7
          obtain ⟨A8, n8, c8, hn8, hS8, hR8, _⟩ := hR7.rd.cut_ex2 (k := N) (by rw [hn7]; exact HH.out.2.2.2.2.2.2.2.2.1)
          obtain ⟨hS9, hR9⟩ := hR7.rd.cut_to (k := N) (by rw [hn7]; exact HH.out.2.2.2.2.2.2.2.2.1)
          have H2 := Lib.hid (And.intro hR8 (And.intro hR9 (And.intro (Old.trans H1.out.2 hB7) (show n8 ≤ 1000 by have := HH.out.2.2.2.2.2.2.2.2.2; omega))))
          clear hR7 hB7 hn7 hn8 hR8 hR9
          go_wp2_with fail
          refine (trimL_any A8 n8 c8 _ w2 H2.out.1 (by have := H2.out.2.2.2; omega)).mono ?_
          rintro e w3 ⟨A10, n10, c10, rfl, hR10, rfl⟩
          rw [hTT] at hR10
          clear hR10
          go_wp2_with fail
          refine region_old (by kernel_rfl) (fun wd hHeld hSz => ?_)
          have HSz := Lib.hid hSz
          clear hSz
          refine takeL (i := 0) (v := ?_) rfl (by kernel_rfl) (by kernel_rfl) (by kernel_rfl) (fun _ _ _ h => h) (Or.inl ⟨by rfl, ?_⟩) hHeld ?_
          rotate_left
          focus (intro wq hSw; clear hSw; go_simp; try with_reducible rfl)
          try simp only [Act.put, List.setIfInBounds_toArray, List.set_cons_zero, List.set_cons_succ]
          refine takeL (i := 1) (v := ?_) rfl (by kernel_rfl) (by kernel_rfl) (by kernel_rfl) (fun _ _ _ h => h) (Or.inl ⟨by rfl, ?_⟩) hHeld ?_
          rotate_left
          focus (intro wq hSw; clear hSw; go_simp; try with_reducible rfl)
          try simp only [Act.put, List.setIfInBounds_toArray, List.set_cons_zero, List.set_cons_succ]
          refine takeL (i := 2) (v := ?_) rfl (by kernel_rfl) (by kernel_rfl) (by kernel_rfl) (fun _ _ _ h => h) (Or.inl ⟨by rfl, ?_⟩) hHeld ?_
          rotate_left
          focus (intro wq hSw; have hRun := hS9 wq; clear hSw; go_simp; try with_reducible rfl)
          try simp only [Act.put, List.setIfInBounds_toArray, List.set_cons_zero, List.set_cons_succ]
          refine takeL (i := 3) (v := ?_) rfl (by kernel_rfl) (by kernel_rfl) (by kernel_rfl) (fun _ _ _ h => h) (Or.inl ⟨by rfl, ?_⟩) hHeld ?_
          rotate_left
          focus (intro wq hSw; clear hSw; go_simp; try with_reducible rfl)
          try simp only [Act.put, List.setIfInBounds_toArray, List.set_cons_zero, List.set_cons_succ]
          refine takeL (i := 4) (v := ?_) rfl (by kernel_rfl) (by kernel_rfl) (by kernel_rfl) (fun _ _ _ h => h) (Or.inl ⟨by rfl, ?_⟩) hHeld ?_
          rotate_left
          focus (intro wq hSw; clear hSw; go_simp; try with_reducible rfl)
          try simp only [Act.put, List.setIfInBounds_toArray, List.set_cons_zero, List.set_cons_succ]
          refine wpAnyH_ready (rs := [5]) (by kernel_rfl) (by simp) ?_
          refine consL rfl (fun K hK => ?_) AllReadyH.nil
          go_simp
          have hA : Old w2 (wd.alloc (.cells #[.slice A1 m1 c1] 22)) := Old.alloc hHeld _
          refine hK.out _ _ hA (fun hHeld => ?_)
          clear hK K
          try simp only [Act.put, List.setIfInBounds_toArray, List.set_cons_zero, List.set_cons_succ]
          refine wpAnyH_ready (rs := [6]) (by kernel_rfl) (by simp) ?_
          refine consL rfl (fun K hK => ?_) AllReadyH.nil
          go_simp
          refine (HH.out.2.2.2.2.2.2.1 _ _ _ (rd_one (Blk.new _ _ _) (HH.out.1.below (Old.trans H2.out.2.2.1 hA))) (HH.out.2.1.below (Old.trans H2.out.2.2.1 hA))).mono ?_
          rintro e w4 ⟨A11, n11, c11, rfl, hR11, hB11⟩
          have hb4 : Old w2 w4 := Old.trans hA hB11
          have hR11 := hR11.rd
          clear hB11
          refine hK.out _ _ hb4 (fun hHeld => ?_)
          clear hK K
          try simp only [Act.put, List.setIfInBounds_toArray, List.set_cons_zero, List.set_cons_succ]
          refine wpAnyH_old (w1 := w4) hb4 (fun hHeld => ?_) (Old.refl _)
          refine wpAnyH_ready (rs := [7]) (by kernel_rfl) (by simp) ?_
          refine consL rfl (fun K hK => ?_) AllReadyH.nil
          go_simp
          refine (equalB_any _ _ _ _ _ _ _ _ _ (H2.out.2.1.below hb4) hR11).mono ?_
          rintro e w5 ⟨rfl, rfl⟩
          refine hK.out _ _ (Old.refl _) (fun hHeld => ?_)
          clear hK K
          try simp only [Act.put, List.setIfInBounds_toArray, List.set_cons_zero, List.set_cons_succ]
          refine takeL (i := 8) (v := ?_) rfl (by kernel_rfl) (by kernel_rfl) (by kernel_rfl) (fun _ _ _ h => h) (Or.inl ⟨by rfl, ?_⟩) hHeld ?_
          rotate_left
          focus (intro wq hSw; clear hSw; go_simp; try with_reducible rfl)
          try simp only [Act.put, List.setIfInBounds_toArray, List.set_cons_zero, List.set_cons_succ]
          refine takeL (i := 9) (v := .bool true) rfl (by kernel_rfl) (by kernel_rfl) (by kernel_rfl) (fun _ _ _ h => h) (Or.inl ⟨by rfl, ?_⟩) hHeld ?_
          focus (intro wq hSw; clear hSw; go_simp; try with_reducible rfl)
          try simp only [Act.put, List.setIfInBounds_toArray, List.set_cons_zero, List.set_cons_succ]
          refine takeL (i := 10) (v := undef) rfl (by kernel_rfl) (by kernel_rfl) (by kernel_rfl) (fun _ _ _ h => h) (Or.inr ⟨by rfl, rfl⟩) hHeld ?_
          try simp only [Act.put, List.setIfInBounds_toArray, List.set_cons_zero, List.set_cons_succ]
          refine takeL (i := 11) (v := undef) rfl (by kernel_rfl) (by kernel_rfl) (by kernel_rfl) (fun _ _ _ h => h) (Or.inr ⟨by rfl, rfl⟩) hHeld ?_
          try simp only [Act.put, List.setIfInBounds_toArray, List.set_cons_zero, List.set_cons_succ]
          refine takeL (i := 12) (v := undef) rfl (by kernel_rfl) (by kernel_rfl) (by kernel_rfl) (fun _ _ _ h => h) (Or.inr ⟨by rfl, rfl⟩) hHeld ?_
          try simp only [Act.put, List.setIfInBounds_toArray, List.set_cons_zero, List.set_cons_succ]
          refine takeL (i := 13) (v := ?_) rfl (by kernel_rfl) (by kernel_rfl) (by kernel_rfl) (fun _ _ _ h => h) (Or.inl ⟨by rfl, ?_⟩) hHeld ?_
          rotate_left
          focus (intro wq hSw; clear hSw; go_simp; try with_reducible rfl)
          try simp only [Act.put, List.setIfInBounds_toArray, List.set_cons_zero, List.set_cons_succ]
          refine takeL (i := 14) (v := .bool true) rfl (by kernel_rfl) (by kernel_rfl) (by kernel_rfl) (fun _ _ _ h => h) (Or.inl ⟨by rfl, ?_⟩) hHeld ?_
          focus (intro wq hSw; clear hSw; go_simp; try with_reducible rfl)
          try simp only [Act.put, List.setIfInBounds_toArray, List.set_cons_zero, List.set_cons_succ]
          refine takeL (i := 15) (v := undef) rfl (by kernel_rfl) (by kernel_rfl) (by kernel_rfl) (fun _ _ _ h => h) (Or.inr ⟨by rfl, rfl⟩) hHeld ?_
          try simp only [Act.put, List.setIfInBounds_toArray, List.set_cons_zero, List.set_cons_succ]
          refine takeL (i := 16) (v := undef) rfl (by kernel_rfl) (by kernel_rfl) (by kernel_rfl) (fun _ _ _ h => h) (Or.inr ⟨by rfl, rfl⟩) hHeld ?_
          try simp only [Act.put, List.setIfInBounds_toArray, List.set_cons_zero, List.set_cons_succ]
          refine takeL (i := 17) (v := undef) rfl (by kernel_rfl) (by kernel_rfl) (by kernel_rfl) (fun _ _ _ h => h) (Or.inr ⟨by rfl, rfl⟩) hHeld ?_
          try simp only [Act.put, List.setIfInBounds_toArray, List.set_cons_zero, List.set_cons_succ]
          refine takeL (i := 18) (v := undef) rfl (by kernel_rfl) (by kernel_rfl) (by kernel_rfl) (fun _ _ _ h => h) (Or.inr ⟨by rfl, rfl⟩) hHeld ?_
          try simp only [Act.put, List.setIfInBounds_toArray, List.set_cons_zero, List.set_cons_succ]
          refine takeL (i := 19) (v := ?_) rfl (by kernel_rfl) (by kernel_rfl) (by kernel_rfl) (fun _ _ _ h => h) (Or.inl ⟨by rfl, ?_⟩) hHeld ?_
          rotate_left
          focus (intro wq hSw; clear hSw; go_simp; try with_reducible rfl)
          try simp only [Act.put, List.setIfInBounds_toArray, List.set_cons_zero, List.set_cons_succ]
          refine wpAnyH_done (by kernel_rfl) ?_ _
          refine NoPanic.normal ?_
          simp only [Exit.then]
          go_wp2_with fail
          refine bodyPost_ret (results_tmp2 rfl _ _ _) rfl ?_
          exact ⟨none, 0, 0, rfl, Rd.nil _, Old.trans H2.out.2.2.1 hb4⟩
      · rw [if_pos (.inr d4)]
        have b4 : isN x0 0 = false := by unfold isN; simp; exact fun h => d4 (UInt8.toNat_inj.1 (by simpa using h))
        clear h64 hh hin h1 h3 hl1 hl3 hK hx0 hg0 d4
        go_enter Tryd.func18, Tryd.ntmps18
        go_wp2_with fail
        refine HS.out.mono ?_
        rintro e w' ⟨rfl, rfl⟩
        go_wp2_with fail
        refine bodyPost_ret (results_tmp2 rfl _ _ _) rfl ?_
        exact ⟨none, 0, 0, rfl, Rd.nil _, Old.refl _⟩
end Go.Proofs.YtddemlajfbagdaaDoor
