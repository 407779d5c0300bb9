/-
  pins: Put and Check at a PIN that may be a row of no room.
-/
import Derived.Test.YtdgjjmaiibafhaaDoorPinB
import Derived.Test.YtdgjjmaiibafhaaDoorPinKE
import Derived.Test.YtdgjjmaiibafhaaDoorPinKE
namespace Go.Proofs.YtdgjjmaiibafhaaDoor
set_option maxRecDepth 100000
open Go.RowKit

theorem pin_pk (pin salt : List UInt8) : pinH pin salt = pkey 3 pin salt 8 32 := by
  unfold pinH pkeyAll
  rw [if_pos (by decide)]
  rfl
theorem phashE_any (A : Option Addr) (m c : Nat) (pin : List UInt8) (A2 : Option Addr) (m2 c2 : Nat) (salt : List UInt8) (w : World) (hr : RdE w A m c pin) (hp : pin.length ≤ 1000) (hr2 : Rd w A2 m2 c2 salt) (hs : salt.length ≤ 1000) (hT : KAt w) :
    Calls Tryd.prog 28 #[.slice A m c, .slice A2 m2 c2] w fun e w' => ∃ A c, e = .returned (.slice A 32 c) ∧ Rd w' A 32 c (pinH pin salt) ∧ Old w w' := by
  have hh := pb_in1E 3 (by omega) 8 32 (by omega) (by omega) (by decide) A m c pin A2 m2 c2 salt w hr hp hr2 hs hT
  rw [← pin_pk, show ((8 : Nat) : Int) = 8 from rfl, show ((32 : Nat) : Int) = 32 from rfl] at hh
  have hl := pinH_len pin salt hp hs
  clear hr hp hr2 hs hT
  go_enter Tryd.func28, Tryd.ntmps28
  go_wp2_with fail
  refine hh.mono ?_
  rintro e w2 ⟨A3, n3, c3, rfl, hO3, hb3⟩
  have hn : n3 = 32 := by rw [hO3.1]; exact hl
  subst hn
  have H3 := Lib.hid (And.intro hO3 hb3)
  clear hh hO3 hb3 hl
  go_wp2_with fail
  go_ret
  exact ⟨A3, c3, rfl, H3.out.1, H3.out.2⟩
theorem rphashE_any (A : Option Addr) (m c : Nat) (pin : List UInt8) (A2 : Option Addr) (m2 c2 : Nat) (salt : List UInt8) (w : World) (hr : RdE w A m c pin) (hp : pin.length ≤ 1000) (hr2 : Rd w A2 m2 c2 salt) (hs : salt.length ≤ 1000) :
    Calls Tryd.prog 31 #[.slice A m c, .slice A2 m2 c2] w fun e w' => ∃ A c, e = .returned (.slice A 32 c) ∧ Rd w' A 32 c (pinH pin salt) ∧ Old w w' := by
  have hh := pb_in2E 3 (by omega) 8 32 (by omega) (by omega) (by decide) A m c pin A2 m2 c2 salt w hr hp hr2 hs
  rw [← pin_pk, show ((8 : Nat) : Int) = 8 from rfl, show ((32 : Nat) : Int) = 32 from rfl] at hh
  have hl := pinH_len pin salt hp hs
  clear hr hp hr2 hs
  go_enter Tryd.func31, Tryd.ntmps31
  go_wp2_with fail
  refine hh.mono ?_
  rintro e w2 ⟨A3, n3, c3, rfl, hO3, hb3⟩
  have hn : n3 = 32 := by rw [hO3.1]; exact hl
  subst hn
  have H3 := Lib.hid (And.intro hO3 hb3)
  clear hh hO3 hb3 hl
  go_wp2_with fail
  go_ret
  exact ⟨A3, c3, rfl, H3.out.1, H3.out.2⟩
set_option maxHeartbeats 1000000 in
theorem checkE_any (p : Nat) (s : PS) (A : Option Addr) (m c : Nat) (pin : List UInt8) (w : World) (h : PinAt w p s) (hok : s.Ok) (hr : RdE w A m c pin) (hp : pin.length ≤ 1000) (hT : KAt w) :
    Calls Tryd.prog 16 #[.pointer (some ⟨p, 0, none⟩), .slice A m c] w fun e w' => e = .returned (.int .i64 (s.check pin).1) ∧ PinAt w' p (s.check pin).2 ∧ Turn [p] w w' := by
  have hi := pis_any p s w h
  have hlk := locked_any p s w h
  rcases h with ⟨h1, h2, h⟩ | ⟨h1, b1, o1, c1, A2, c2, hB, r1, r2⟩
  · have hc : s.check pin = (0x102, s) := by unfold PS.check; rw [if_pos h1]
    rw [hc]
    rw [h1] at hi
    have H := Lib.hid (show PinAt w p s from .inl ⟨h1, h2, h⟩)
    clear h hlk hr hT hc h1 h2
    go_enter Tryd.func16, Tryd.ntmps16
    go_wp2_with fail
    refine hi.mono ?_
    rintro e w' ⟨rfl, rfl⟩
    go_wp2_with fail
    go_ret
    exact ⟨rfl, H.out, Turn.refl _ _⟩
  · rw [h1] at hi
    by_cases h3 : 3 ≤ s.tries
    · have hc : s.check pin = (0xa4, s) := by unfold PS.check; rw [if_neg (by simp [h1]), if_pos h3]
      rw [hc]
      rw [decide_eq_true h3] at hlk
      have H := Lib.hid (show PinAt w p s from .inr ⟨h1, b1, o1, c1, A2, c2, hB, r1, r2⟩)
      clear hr hT hc h1 h3 hB r1 r2
      go_enter Tryd.func16, Tryd.ntmps16
      go_wp2_with fail
      refine hi.mono ?_
      rintro e w' ⟨rfl, rfl⟩
      go_wp2_with fail
      refine hlk.mono ?_
      rintro e w' ⟨rfl, rfl⟩
      go_wp2_with fail
      go_ret
      exact ⟨rfl, H.out, Turn.refl _ _⟩
    · rw [decide_eq_false h3] at hlk
      have q0 := hB.cell 0
      have q1 := hB.cell 1
      simp at q0 q1
      have htl : s.tries ≤ 3 := hok.tries
      have hsl := hok.salt h1
      have hchk : s.check pin = if pinH pin s.salt = s.hash then (0, { s with tries := 0 }) else (0xa0, { s with tries := s.tries + 1 }) := by unfold PS.check; rw [if_neg (by simp [h1]), if_neg h3]
      rw [hchk]
      obtain ⟨set, salt, hash, t⟩ := s
      simp only at *
      obtain ⟨PH, hPH⟩ : ∃ PH, pinH pin salt = PH := ⟨_, rfl⟩
      rw [hPH]
      have H := Lib.hid (And.intro hB (And.intro r1 (And.intro r2 (And.intro hr (And.intro hT (And.intro hPH (And.intro q0 (And.intro q1 (And.intro h1 (And.intro hp hsl))))))))))
      clear hr hT h1 h3 hB r1 r2 hPH hchk q0 q1 hp hsl hok
      by_cases heq : PH = hash
      · have hde : decide (PH = hash) = true := decide_eq_true heq
        rw [if_pos heq]
        clear heq
        go_enter Tryd.func16, Tryd.ntmps16
        go_wp2_with fail
        refine hi.mono ?_
        rintro e w' ⟨rfl, rfl⟩
        go_wp2_with fail
        refine hlk.mono ?_
        rintro e w' ⟨rfl, rfl⟩
        go_wp2_with fail
        clear hi hlk
        refine region_old (by kernel_rfl) (fun wd hHeld hSz => ?_)
        have HSz := Lib.hid hSz
        clear hSz
        refine takeL (i := 0) (v := ?_) rfl (by kernel_rfl) (by kernel_rfl) (by kernel_rfl) (fun _ _ _ h => h) (Or.inl ⟨by rfl, ?_⟩) hHeld ?_
        rotate_left
        focus (intro wq hSw; clear hSw; go_simp; try with_reducible rfl)
        try simp only [Act.put, List.setIfInBounds_toArray, List.set_cons_zero, List.set_cons_succ]
        refine takeL (i := 1) (v := ?_) rfl (by kernel_rfl) (by kernel_rfl) (by kernel_rfl) (fun _ _ _ h => h) (Or.inl ⟨by rfl, ?_⟩) hHeld ?_
        rotate_left
        focus (intro wq hSw; clear hSw; go_simp; try with_reducible rfl)
        try simp only [Act.put, List.setIfInBounds_toArray, List.set_cons_zero, List.set_cons_succ]
        refine takeL (i := 2) (v := ?_) rfl (by kernel_rfl) (by kernel_rfl) (by kernel_rfl) (fun _ _ _ h => h) (Or.inl ⟨by rfl, ?_⟩) hHeld ?_
        rotate_left
        focus (intro wq hSw; clear hSw; go_simp; try with_reducible rfl)
        try simp only [Act.put, List.setIfInBounds_toArray, List.set_cons_zero, List.set_cons_succ]
        refine takeL (i := 3) (v := ?_) rfl (by kernel_rfl) (by kernel_rfl) (by kernel_rfl) (fun _ _ _ h => h) (Or.inl ⟨by rfl, ?_⟩) hHeld ?_
        rotate_left
        focus (intro wq hSw; clear hSw; go_simp; try with_reducible rfl)
        try simp only [Act.put, List.setIfInBounds_toArray, List.set_cons_zero, List.set_cons_succ]
        refine takeL (i := 4) (v := ?_) rfl (by kernel_rfl) (by kernel_rfl) (by kernel_rfl) (fun _ _ _ h => h) (Or.inl ⟨by rfl, ?_⟩) hHeld ?_
        rotate_left
        focus (intro wq hSw; have q0 := cellOld hSw H.out.2.2.2.2.2.2.1; clear hSw; go_simp; try with_reducible rfl)
        try simp only [Act.put, List.setIfInBounds_toArray, List.set_cons_zero, List.set_cons_succ]
        refine takeL (i := 6) (v := ?_) rfl (by kernel_rfl) (by kernel_rfl) (by kernel_rfl) (fun _ _ _ h => h) (Or.inl ⟨by rfl, ?_⟩) hHeld ?_
        rotate_left
        focus (intro wq hSw; clear hSw; go_simp; try with_reducible rfl)
        try simp only [Act.put, List.setIfInBounds_toArray, List.set_cons_zero, List.set_cons_succ]
        refine takeL (i := 7) (v := ?_) rfl (by kernel_rfl) (by kernel_rfl) (by kernel_rfl) (fun _ _ _ h => h) (Or.inl ⟨by rfl, ?_⟩) hHeld ?_
        rotate_left
        focus (intro wq hSw; clear hSw; go_simp; try with_reducible rfl)
        try simp only [Act.put, List.setIfInBounds_toArray, List.set_cons_zero, List.set_cons_succ]
        refine takeL (i := 8) (v := ?_) rfl (by kernel_rfl) (by kernel_rfl) (by kernel_rfl) (fun _ _ _ h => h) (Or.inl ⟨by rfl, ?_⟩) hHeld ?_
        rotate_left
        focus (intro wq hSw; clear hSw; go_simp; try with_reducible rfl)
        try simp only [Act.put, List.setIfInBounds_toArray, List.set_cons_zero, List.set_cons_succ]
        refine takeL (i := 9) (v := ?_) rfl (by kernel_rfl) (by kernel_rfl) (by kernel_rfl) (fun _ _ _ h => h) (Or.inl ⟨by rfl, ?_⟩) hHeld ?_
        rotate_left
        focus (intro wq hSw; have q1 := cellOld hSw H.out.2.2.2.2.2.2.2.1; clear hSw; go_simp; try with_reducible rfl)
        try simp only [Act.put, List.setIfInBounds_toArray, List.set_cons_zero, List.set_cons_succ]
        refine wpAnyH_ready (rs := [5]) (by kernel_rfl) (by simp) ?_
        refine consL rfl (fun K hK => ?_) AllReadyH.nil
        go_simp
        refine (phashE_any A m c pin (some ⟨b1, o1, none⟩) 16 c1 salt wd (H.out.2.2.2.1.below hHeld) H.out.2.2.2.2.2.2.2.2.2.1 (H.out.2.1.below hHeld) (by rw [H.out.2.2.2.2.2.2.2.2.2.2]; omega) (H.out.2.2.2.2.1.below hHeld)).mono ?_
        rintro e w3 ⟨A3, c3, rfl, r3, hO3⟩
        rw [H.out.2.2.2.2.2.1] at r3
        have hH3 := Old.trans hHeld hO3
        refine hK.out _ _ hH3 (fun hHeld => ?_)
        clear hK K
        try simp only [Act.put, List.setIfInBounds_toArray, List.set_cons_zero, List.set_cons_succ]
        refine wpAnyH_ready (rs := [10]) (by kernel_rfl) (by simp) ?_
        refine consL rfl (fun K hK => ?_) AllReadyH.nil
        go_simp
        refine (equalB_any A3 32 c3 A2 32 c2 PH hash _ r3 (H.out.2.2.1.below hHeld)).mono ?_
        rintro e w' ⟨rfl, rfl⟩
        refine hK.out _ _ hHeld (fun hHeld => ?_)
        clear hK K
        try simp only [Act.put, List.setIfInBounds_toArray, List.set_cons_zero, List.set_cons_succ]
        refine takeL (i := 11) (v := ?_) rfl (by kernel_rfl) (by kernel_rfl) (by kernel_rfl) (fun _ _ _ h => h) (Or.inl ⟨by rfl, ?_⟩) hHeld ?_
        rotate_left
        focus (intro wq hSw; clear hSw; go_simp; try with_reducible rfl)
        try simp only [Act.put, List.setIfInBounds_toArray, List.set_cons_zero, List.set_cons_succ]
        refine takeL (i := 12) (v := ?_) rfl (by kernel_rfl) (by kernel_rfl) (by kernel_rfl) (fun _ _ _ h => h) (Or.inl ⟨by rfl, ?_⟩) hHeld ?_
        rotate_left
        focus (intro wq hSw; clear hSw; go_simp; try with_reducible rfl)
        try simp only [Act.put, List.setIfInBounds_toArray, List.set_cons_zero, List.set_cons_succ]
        refine wpAnyH_done (by kernel_rfl) ?_ _
        refine NoPanic.normal ?_
        try simp only [Exit.then]
        clear r3 hO3 hH3
        have hB1 := Blk.below H.out.1 hHeld
        have f2 := hB1.frozen 2
        have q2 := hB1.cell 2
        simp at q2
        have r1' := H.out.2.1.below hHeld
        have r2' := H.out.2.2.1.below hHeld
        have H9 := Lib.hid (And.intro hB1 (And.intro r1' (And.intro r2' hHeld)))
        clear hB1 r1' r2' hHeld
        try simp only [hde, Bool.not_true, Bool.not_false]
        go_wp2_with fail
        go_ret
        have ht3 : Turn [p] w3 (w3.setCell ⟨p, 2, none⟩ (.int .i64 0)) := (Turn.refl [p] _).setCell (.inl (by simp)) _
        refine ⟨rfl, .inr ⟨H.out.2.2.2.2.2.2.2.2.1, b1, o1, c1, A2, c2, ?_, H9.out.2.1.turnN (by decide) ht3 (one_noB p (NoB.of H9.out.1 rfl)), H9.out.2.2.1.turnN (by decide) ht3 (one_noB p (NoB.of H9.out.1 rfl))⟩, (Turn.of_below [p] H9.out.2.2.2).trans ht3 (fun x hx => .inl hx)⟩
        have := H9.out.1.set_ 2 (.int .i64 0)
        simpa using this
      · have hde : decide (PH = hash) = false := decide_eq_false heq
        rw [if_neg heq]
        clear heq
        go_enter Tryd.func16, Tryd.ntmps16
        go_wp2_with fail
        refine hi.mono ?_
        rintro e w' ⟨rfl, rfl⟩
        go_wp2_with fail
        refine hlk.mono ?_
        rintro e w' ⟨rfl, rfl⟩
        go_wp2_with fail
        clear hi hlk
        refine region_old (by kernel_rfl) (fun wd hHeld hSz => ?_)
        have HSz := Lib.hid hSz
        clear hSz
        refine takeL (i := 0) (v := ?_) rfl (by kernel_rfl) (by kernel_rfl) (by kernel_rfl) (fun _ _ _ h => h) (Or.inl ⟨by rfl, ?_⟩) hHeld ?_
        rotate_left
        focus (intro wq hSw; clear hSw; go_simp; try with_reducible rfl)
        try simp only [Act.put, List.setIfInBounds_toArray, List.set_cons_zero, List.set_cons_succ]
        refine takeL (i := 1) (v := ?_) rfl (by kernel_rfl) (by kernel_rfl) (by kernel_rfl) (fun _ _ _ h => h) (Or.inl ⟨by rfl, ?_⟩) hHeld ?_
        rotate_left
        focus (intro wq hSw; clear hSw; go_simp; try with_reducible rfl)
        try simp only [Act.put, List.setIfInBounds_toArray, List.set_cons_zero, List.set_cons_succ]
        refine takeL (i := 2) (v := ?_) rfl (by kernel_rfl) (by kernel_rfl) (by kernel_rfl) (fun _ _ _ h => h) (Or.inl ⟨by rfl, ?_⟩) hHeld ?_
        rotate_left
        focus (intro wq hSw; clear hSw; go_simp; try with_reducible rfl)
        try simp only [Act.put, List.setIfInBounds_toArray, List.set_cons_zero, List.set_cons_succ]
        refine takeL (i := 3) (v := ?_) rfl (by kernel_rfl) (by kernel_rfl) (by kernel_rfl) (fun _ _ _ h => h) (Or.inl ⟨by rfl, ?_⟩) hHeld ?_
        rotate_left
        focus (intro wq hSw; clear hSw; go_simp; try with_reducible rfl)
        try simp only [Act.put, List.setIfInBounds_toArray, List.set_cons_zero, List.set_cons_succ]
        refine takeL (i := 4) (v := ?_) rfl (by kernel_rfl) (by kernel_rfl) (by kernel_rfl) (fun _ _ _ h => h) (Or.inl ⟨by rfl, ?_⟩) hHeld ?_
        rotate_left
        focus (intro wq hSw; have q0 := cellOld hSw H.out.2.2.2.2.2.2.1; clear hSw; go_simp; try with_reducible rfl)
        try simp only [Act.put, List.setIfInBounds_toArray, List.set_cons_zero, List.set_cons_succ]
        refine takeL (i := 6) (v := ?_) rfl (by kernel_rfl) (by kernel_rfl) (by kernel_rfl) (fun _ _ _ h => h) (Or.inl ⟨by rfl, ?_⟩) hHeld ?_
        rotate_left
        focus (intro wq hSw; clear hSw; go_simp; try with_reducible rfl)
        try simp only [Act.put, List.setIfInBounds_toArray, List.set_cons_zero, List.set_cons_succ]
        refine takeL (i := 7) (v := ?_) rfl (by kernel_rfl) (by kernel_rfl) (by kernel_rfl) (fun _ _ _ h => h) (Or.inl ⟨by rfl, ?_⟩) hHeld ?_
        rotate_left
        focus (intro wq hSw; clear hSw; go_simp; try with_reducible rfl)
        try simp only [Act.put, List.setIfInBounds_toArray, List.set_cons_zero, List.set_cons_succ]
        refine takeL (i := 8) (v := ?_) rfl (by kernel_rfl) (by kernel_rfl) (by kernel_rfl) (fun _ _ _ h => h) (Or.inl ⟨by rfl, ?_⟩) hHeld ?_
        rotate_left
        focus (intro wq hSw; clear hSw; go_simp; try with_reducible rfl)
        try simp only [Act.put, List.setIfInBounds_toArray, List.set_cons_zero, List.set_cons_succ]
        refine takeL (i := 9) (v := ?_) rfl (by kernel_rfl) (by kernel_rfl) (by kernel_rfl) (fun _ _ _ h => h) (Or.inl ⟨by rfl, ?_⟩) hHeld ?_
        rotate_left
        focus (intro wq hSw; have q1 := cellOld hSw H.out.2.2.2.2.2.2.2.1; clear hSw; go_simp; try with_reducible rfl)
        try simp only [Act.put, List.setIfInBounds_toArray, List.set_cons_zero, List.set_cons_succ]
        refine wpAnyH_ready (rs := [5]) (by kernel_rfl) (by simp) ?_
        refine consL rfl (fun K hK => ?_) AllReadyH.nil
        go_simp
        refine (phashE_any A m c pin (some ⟨b1, o1, none⟩) 16 c1 salt wd (H.out.2.2.2.1.below hHeld) H.out.2.2.2.2.2.2.2.2.2.1 (H.out.2.1.below hHeld) (by rw [H.out.2.2.2.2.2.2.2.2.2.2]; omega) (H.out.2.2.2.2.1.below hHeld)).mono ?_
        rintro e w3 ⟨A3, c3, rfl, r3, hO3⟩
        rw [H.out.2.2.2.2.2.1] at r3
        have hH3 := Old.trans hHeld hO3
        refine hK.out _ _ hH3 (fun hHeld => ?_)
        clear hK K
        try simp only [Act.put, List.setIfInBounds_toArray, List.set_cons_zero, List.set_cons_succ]
        refine wpAnyH_ready (rs := [10]) (by kernel_rfl) (by simp) ?_
        refine consL rfl (fun K hK => ?_) AllReadyH.nil
        go_simp
        refine (equalB_any A3 32 c3 A2 32 c2 PH hash _ r3 (H.out.2.2.1.below hHeld)).mono ?_
        rintro e w' ⟨rfl, rfl⟩
        refine hK.out _ _ hHeld (fun hHeld => ?_)
        clear hK K
        try simp only [Act.put, List.setIfInBounds_toArray, List.set_cons_zero, List.set_cons_succ]
        refine takeL (i := 11) (v := ?_) rfl (by kernel_rfl) (by kernel_rfl) (by kernel_rfl) (fun _ _ _ h => h) (Or.inl ⟨by rfl, ?_⟩) hHeld ?_
        rotate_left
        focus (intro wq hSw; clear hSw; go_simp; try with_reducible rfl)
        try simp only [Act.put, List.setIfInBounds_toArray, List.set_cons_zero, List.set_cons_succ]
        refine takeL (i := 12) (v := ?_) rfl (by kernel_rfl) (by kernel_rfl) (by kernel_rfl) (fun _ _ _ h => h) (Or.inl ⟨by rfl, ?_⟩) hHeld ?_
        rotate_left
        focus (intro wq hSw; clear hSw; go_simp; try with_reducible rfl)
        try simp only [Act.put, List.setIfInBounds_toArray, List.set_cons_zero, List.set_cons_succ]
        refine wpAnyH_done (by kernel_rfl) ?_ _
        refine NoPanic.normal ?_
        try simp only [Exit.then]
        clear r3 hO3 hH3
        have hB1 := Blk.below H.out.1 hHeld
        have f2 := hB1.frozen 2
        have q2 := hB1.cell 2
        simp at q2
        have r1' := H.out.2.1.below hHeld
        have r2' := H.out.2.2.1.below hHeld
        have H9 := Lib.hid (And.intro hB1 (And.intro r1' (And.intro r2' hHeld)))
        clear hB1 r1' r2' hHeld
        try simp only [hde, Bool.not_true, Bool.not_false]
        go_wp2_with fail
        go_ret
        have ht3 : Turn [p] w3 (w3.setCell ⟨p, 2, none⟩ (.int .i64 ((t : Int) + 1))) := (Turn.refl [p] _).setCell (.inl (by simp)) _
        refine ⟨rfl, .inr ⟨H.out.2.2.2.2.2.2.2.2.1, b1, o1, c1, A2, c2, ?_, H9.out.2.1.turnN (by decide) ht3 (one_noB p (NoB.of H9.out.1 rfl)), H9.out.2.2.1.turnN (by decide) ht3 (one_noB p (NoB.of H9.out.1 rfl))⟩, (Turn.of_below [p] H9.out.2.2.2).trans ht3 (fun x hx => .inl hx)⟩
        have := H9.out.1.set_ 2 (.int .i64 ((t : Int) + 1))
        simpa using this
set_option maxHeartbeats 1000000 in
theorem rcheckE_any (p : Nat) (s : PS) (A : Option Addr) (m c : Nat) (pin : List UInt8) (w : World) (h : RpAt w p s) (hok : s.Ok) (hr : RdE w A m c pin) (hp : pin.length ≤ 1000) :
    Calls Tryd.prog 17 #[.pointer (some ⟨p, 0, none⟩), .slice A m c] w fun e w' => e = .returned (.int .i64 (s.check pin).1) ∧ RpAt w' p (s.check pin).2 ∧ Turn [p] w w' := by
  have HS := Lib.hid h
  obtain ⟨A1, n1, c1, A2, n2, c2, hB, hk⟩ := h
  have q0 := hB.cell 0
  have q3 := hB.cell 3
  simp at q0 q3
  cases h1 : s.set with
  | false =>
    rw [h1] at q0
    have hc : s.check pin = (0x102, s) := by unfold PS.check; rw [if_pos h1]
    rw [hc]
    clear hB hk hr hc h1
    go_enter Tryd.func17, Tryd.ntmps17
    go_wp2_with fail
    go_ret
    exact ⟨rfl, HS.out, Turn.refl _ _⟩
  | true =>
    rw [h1] at q0
    by_cases h3 : 3 ≤ s.tries
    · have hc : s.check pin = (0xa4, s) := by unfold PS.check; rw [if_neg (by simp [h1]), if_pos h3]
      rw [hc]
      have t3 : (3 : Int) ≤ s.tries := by omega
      have t3d : decide ((3 : Int) ≤ (s.tries : Int)) = true := decide_eq_true t3
      clear hB hk hr hc h1 h3
      go_enter Tryd.func17, Tryd.ntmps17
      go_wp2_with fail
      go_ret
      exact ⟨rfl, HS.out, Turn.refl _ _⟩
    · obtain ⟨rfl, rfl, r1, r2⟩ := hk h1
      have t3 : ¬ (3 : Int) ≤ s.tries := by omega
      have t3d : decide ((3 : Int) ≤ (s.tries : Int)) = false := decide_eq_false t3
      have q1 := hB.cell 1
      have q2 := hB.cell 2
      simp at q1 q2
      have htl : s.tries ≤ 3 := hok.tries
      have hsl := hok.salt h1
      have hchk : s.check pin = if pinH pin s.salt = s.hash then (0, { s with tries := 0 }) else (0xa0, { s with tries := s.tries + 1 }) := by unfold PS.check; rw [if_neg (by simp [h1]), if_neg h3]
      rw [hchk]
      obtain ⟨set, salt, hash, t⟩ := s
      simp only at *
      subst h1
      obtain ⟨PH, hPH⟩ : ∃ PH, pinH pin salt = PH := ⟨_, rfl⟩
      rw [hPH]
      have H := Lib.hid (And.intro hB (And.intro r1 (And.intro r2 (And.intro hr (And.intro hPH (And.intro q1 (And.intro q2 (And.intro hp hsl))))))))
      clear hr h3 hB r1 r2 hPH hchk q1 q2 hp hsl hok hk HS
      by_cases heq : PH = hash
      · have hbe : (PH == hash) = true := by simpa using heq
        rw [if_pos heq]
        clear heq
        go_enter Tryd.func17, Tryd.ntmps17
        go_wp2_with fail
        refine region_old (by kernel_rfl) (fun wd hHeld hSz => ?_)
        have HSz := Lib.hid hSz
        clear hSz
        refine takeL (i := 0) (v := ?_) rfl (by kernel_rfl) (by kernel_rfl) (by kernel_rfl) (fun _ _ _ h => h) (Or.inl ⟨by rfl, ?_⟩) hHeld ?_
        rotate_left
        focus (intro wq hSw; clear hSw; go_simp; try with_reducible rfl)
        try simp only [Act.put, List.setIfInBounds_toArray, List.set_cons_zero, List.set_cons_succ]
        refine takeL (i := 1) (v := ?_) rfl (by kernel_rfl) (by kernel_rfl) (by kernel_rfl) (fun _ _ _ h => h) (Or.inl ⟨by rfl, ?_⟩) hHeld ?_
        rotate_left
        focus (intro wq hSw; clear hSw; go_simp; try with_reducible rfl)
        try simp only [Act.put, List.setIfInBounds_toArray, List.set_cons_zero, List.set_cons_succ]
        refine takeL (i := 2) (v := ?_) rfl (by kernel_rfl) (by kernel_rfl) (by kernel_rfl) (fun _ _ _ h => h) (Or.inl ⟨by rfl, ?_⟩) hHeld ?_
        rotate_left
        focus (intro wq hSw; clear hSw; go_simp; try with_reducible rfl)
        try simp only [Act.put, List.setIfInBounds_toArray, List.set_cons_zero, List.set_cons_succ]
        refine takeL (i := 3) (v := ?_) rfl (by kernel_rfl) (by kernel_rfl) (by kernel_rfl) (fun _ _ _ h => h) (Or.inl ⟨by rfl, ?_⟩) hHeld ?_
        rotate_left
        focus (intro wq hSw; clear hSw; go_simp; try with_reducible rfl)
        try simp only [Act.put, List.setIfInBounds_toArray, List.set_cons_zero, List.set_cons_succ]
        refine takeL (i := 4) (v := ?_) rfl (by kernel_rfl) (by kernel_rfl) (by kernel_rfl) (fun _ _ _ h => h) (Or.inl ⟨by rfl, ?_⟩) hHeld ?_
        rotate_left
        focus (intro wq hSw; have q1 := cellOld hSw H.out.2.2.2.2.2.1; clear hSw; go_simp; try with_reducible rfl)
        try simp only [Act.put, List.setIfInBounds_toArray, List.set_cons_zero, List.set_cons_succ]
        refine takeL (i := 7) (v := ?_) rfl (by kernel_rfl) (by kernel_rfl) (by kernel_rfl) (fun _ _ _ h => h) (Or.inl ⟨by rfl, ?_⟩) hHeld ?_
        rotate_left
        focus (intro wq hSw; clear hSw; go_simp; try with_reducible rfl)
        try simp only [Act.put, List.setIfInBounds_toArray, List.set_cons_zero, List.set_cons_succ]
        refine takeL (i := 8) (v := ?_) rfl (by kernel_rfl) (by kernel_rfl) (by kernel_rfl) (fun _ _ _ h => h) (Or.inl ⟨by rfl, ?_⟩) hHeld ?_
        rotate_left
        focus (intro wq hSw; clear hSw; go_simp; try with_reducible rfl)
        try simp only [Act.put, List.setIfInBounds_toArray, List.set_cons_zero, List.set_cons_succ]
        refine takeL (i := 9) (v := ?_) rfl (by kernel_rfl) (by kernel_rfl) (by kernel_rfl) (fun _ _ _ h => h) (Or.inl ⟨by rfl, ?_⟩) hHeld ?_
        rotate_left
        focus (intro wq hSw; clear hSw; go_simp; try with_reducible rfl)
        try simp only [Act.put, List.setIfInBounds_toArray, List.set_cons_zero, List.set_cons_succ]
        refine takeL (i := 10) (v := ?_) rfl (by kernel_rfl) (by kernel_rfl) (by kernel_rfl) (fun _ _ _ h => h) (Or.inl ⟨by rfl, ?_⟩) hHeld ?_
        rotate_left
        focus (intro wq hSw; have q2 := cellOld hSw H.out.2.2.2.2.2.2.1; clear hSw; go_simp; try with_reducible rfl)
        try simp only [Act.put, List.setIfInBounds_toArray, List.set_cons_zero, List.set_cons_succ]
        refine takeL (i := 11) (v := ?_) rfl (by kernel_rfl) (by kernel_rfl) (by kernel_rfl) (fun _ _ _ h => h) (Or.inl ⟨by rfl, ?_⟩) hHeld ?_
        rotate_left
        focus (intro wq hSw; have hRun := (H.out.2.2.1.below hSw).str; clear hSw; go_simp; try with_reducible rfl)
        try simp only [Act.put, List.setIfInBounds_toArray, List.set_cons_zero, List.set_cons_succ]
        refine wpAnyH_ready (rs := [5]) (by kernel_rfl) (by simp) ?_
        refine consL rfl (fun K hK => ?_) AllReadyH.nil
        go_simp
        refine (rphashE_any A m c pin A1 16 c1 salt wd (H.out.2.2.2.1.below hHeld) H.out.2.2.2.2.2.2.2.1 (H.out.2.1.below hHeld) (by rw [H.out.2.2.2.2.2.2.2.2]; omega)).mono ?_
        rintro e w3 ⟨A3, c3, rfl, r3, hO3⟩
        rw [H.out.2.2.2.2.1] at r3
        have hH3 := Old.trans hHeld hO3
        refine hK.out _ _ hH3 (fun hHeld => ?_)
        clear hK K
        try simp only [Act.put, List.setIfInBounds_toArray, List.set_cons_zero, List.set_cons_succ]
        refine wpAnyH_old (w1 := w3) hH3 (fun hHeld => ?_) (Old.refl _)
        refine takeL (i := 6) (v := ?_) rfl (by kernel_rfl) (by kernel_rfl) (by kernel_rfl) (fun _ _ _ h => h) (Or.inl ⟨by rfl, ?_⟩) hHeld ?_
        rotate_left
        focus (intro wq hSw; have hRun := r3.str_below hSw; clear hSw; go_simp; try with_reducible rfl)
        try simp only [Act.put, List.setIfInBounds_toArray, List.set_cons_zero, List.set_cons_succ]
        refine takeL (i := 12) (v := ?_) rfl (by kernel_rfl) (by kernel_rfl) (by kernel_rfl) (fun _ _ _ h => h) (Or.inl ⟨by rfl, ?_⟩) hHeld ?_
        rotate_left
        focus (intro wq hSw; clear hSw; go_simp; try with_reducible rfl)
        try simp only [Act.put, List.setIfInBounds_toArray, List.set_cons_zero, List.set_cons_succ]
        refine wpAnyH_done (by kernel_rfl) ?_ _
        refine NoPanic.normal ?_
        try simp only [Exit.then]
        have hW := Old.trans hH3 hHeld
        clear r3 hO3 hH3 hHeld
        have hB1 := Blk.below H.out.1 hW
        have f3 := hB1.frozen 3
        have q3 := hB1.cell 3
        simp at q3
        have r1' := H.out.2.1.below hW
        have r2' := H.out.2.2.1.below hW
        have H9 := Lib.hid (And.intro hB1 (And.intro r1' (And.intro r2' hW)))
        clear hB1 r1' r2' hW
        try simp only [hbe]
        go_wp2_with fail
        go_ret
        have ht3 : Turn [p] w3 (w3.setCell ⟨p, 3, none⟩ (.int .i64 0)) := (Turn.refl [p] _).setCell (.inl (by simp)) _
        have hN := one_noB p (NoB.of H9.out.1 rfl)
        refine ⟨rfl, ⟨A1, 16, c1, A2, 32, c2, ?_, fun _ => ⟨rfl, rfl, H9.out.2.1.turnN (by decide) ht3 hN, H9.out.2.2.1.turnN (by decide) ht3 hN⟩⟩, (Turn.of_below [p] H9.out.2.2.2).trans ht3 (fun x hx => .inl hx)⟩
        have := H9.out.1.set_ 3 (.int .i64 0)
        simpa using this
      · have hbe : (PH == hash) = false := by simpa using heq
        rw [if_neg heq]
        clear heq
        go_enter Tryd.func17, Tryd.ntmps17
        go_wp2_with fail
        refine region_old (by kernel_rfl) (fun wd hHeld hSz => ?_)
        have HSz := Lib.hid hSz
        clear hSz
        refine takeL (i := 0) (v := ?_) rfl (by kernel_rfl) (by kernel_rfl) (by kernel_rfl) (fun _ _ _ h => h) (Or.inl ⟨by rfl, ?_⟩) hHeld ?_
        rotate_left
        focus (intro wq hSw; clear hSw; go_simp; try with_reducible rfl)
        try simp only [Act.put, List.setIfInBounds_toArray, List.set_cons_zero, List.set_cons_succ]
        refine takeL (i := 1) (v := ?_) rfl (by kernel_rfl) (by kernel_rfl) (by kernel_rfl) (fun _ _ _ h => h) (Or.inl ⟨by rfl, ?_⟩) hHeld ?_
        rotate_left
        focus (intro wq hSw; clear hSw; go_simp; try with_reducible rfl)
        try simp only [Act.put, List.setIfInBounds_toArray, List.set_cons_zero, List.set_cons_succ]
        refine takeL (i := 2) (v := ?_) rfl (by kernel_rfl) (by kernel_rfl) (by kernel_rfl) (fun _ _ _ h => h) (Or.inl ⟨by rfl, ?_⟩) hHeld ?_
        rotate_left
        focus (intro wq hSw; clear hSw; go_simp; try with_reducible rfl)
        try simp only [Act.put, List.setIfInBounds_toArray, List.set_cons_zero, List.set_cons_succ]
        refine takeL (i := 3) (v := ?_) rfl (by kernel_rfl) (by kernel_rfl) (by kernel_rfl) (fun _ _ _ h => h) (Or.inl ⟨by rfl, ?_⟩) hHeld ?_
        rotate_left
        focus (intro wq hSw; clear hSw; go_simp; try with_reducible rfl)
        try simp only [Act.put, List.setIfInBounds_toArray, List.set_cons_zero, List.set_cons_succ]
        refine takeL (i := 4) (v := ?_) rfl (by kernel_rfl) (by kernel_rfl) (by kernel_rfl) (fun _ _ _ h => h) (Or.inl ⟨by rfl, ?_⟩) hHeld ?_
        rotate_left
        focus (intro wq hSw; have q1 := cellOld hSw H.out.2.2.2.2.2.1; clear hSw; go_simp; try with_reducible rfl)
        try simp only [Act.put, List.setIfInBounds_toArray, List.set_cons_zero, List.set_cons_succ]
        refine takeL (i := 7) (v := ?_) rfl (by kernel_rfl) (by kernel_rfl) (by kernel_rfl) (fun _ _ _ h => h) (Or.inl ⟨by rfl, ?_⟩) hHeld ?_
        rotate_left
        focus (intro wq hSw; clear hSw; go_simp; try with_reducible rfl)
        try simp only [Act.put, List.setIfInBounds_toArray, List.set_cons_zero, List.set_cons_succ]
        refine takeL (i := 8) (v := ?_) rfl (by kernel_rfl) (by kernel_rfl) (by kernel_rfl) (fun _ _ _ h => h) (Or.inl ⟨by rfl, ?_⟩) hHeld ?_
        rotate_left
        focus (intro wq hSw; clear hSw; go_simp; try with_reducible rfl)
        try simp only [Act.put, List.setIfInBounds_toArray, List.set_cons_zero, List.set_cons_succ]
        refine takeL (i := 9) (v := ?_) rfl (by kernel_rfl) (by kernel_rfl) (by kernel_rfl) (fun _ _ _ h => h) (Or.inl ⟨by rfl, ?_⟩) hHeld ?_
        rotate_left
        focus (intro wq hSw; clear hSw; go_simp; try with_reducible rfl)
        try simp only [Act.put, List.setIfInBounds_toArray, List.set_cons_zero, List.set_cons_succ]
        refine takeL (i := 10) (v := ?_) rfl (by kernel_rfl) (by kernel_rfl) (by kernel_rfl) (fun _ _ _ h => h) (Or.inl ⟨by rfl, ?_⟩) hHeld ?_
        rotate_left
        focus (intro wq hSw; have q2 := cellOld hSw H.out.2.2.2.2.2.2.1; clear hSw; go_simp; try with_reducible rfl)
        try simp only [Act.put, List.setIfInBounds_toArray, List.set_cons_zero, List.set_cons_succ]
        refine takeL (i := 11) (v := ?_) rfl (by kernel_rfl) (by kernel_rfl) (by kernel_rfl) (fun _ _ _ h => h) (Or.inl ⟨by rfl, ?_⟩) hHeld ?_
        rotate_left
        focus (intro wq hSw; have hRun := (H.out.2.2.1.below hSw).str; clear hSw; go_simp; try with_reducible rfl)
        try simp only [Act.put, List.setIfInBounds_toArray, List.set_cons_zero, List.set_cons_succ]
        refine wpAnyH_ready (rs := [5]) (by kernel_rfl) (by simp) ?_
        refine consL rfl (fun K hK => ?_) AllReadyH.nil
        go_simp
        refine (rphashE_any A m c pin A1 16 c1 salt wd (H.out.2.2.2.1.below hHeld) H.out.2.2.2.2.2.2.2.1 (H.out.2.1.below hHeld) (by rw [H.out.2.2.2.2.2.2.2.2]; omega)).mono ?_
        rintro e w3 ⟨A3, c3, rfl, r3, hO3⟩
        rw [H.out.2.2.2.2.1] at r3
        have hH3 := Old.trans hHeld hO3
        refine hK.out _ _ hH3 (fun hHeld => ?_)
        clear hK K
        try simp only [Act.put, List.setIfInBounds_toArray, List.set_cons_zero, List.set_cons_succ]
        refine wpAnyH_old (w1 := w3) hH3 (fun hHeld => ?_) (Old.refl _)
        refine takeL (i := 6) (v := ?_) rfl (by kernel_rfl) (by kernel_rfl) (by kernel_rfl) (fun _ _ _ h => h) (Or.inl ⟨by rfl, ?_⟩) hHeld ?_
        rotate_left
        focus (intro wq hSw; have hRun := r3.str_below hSw; clear hSw; go_simp; try with_reducible rfl)
        try simp only [Act.put, List.setIfInBounds_toArray, List.set_cons_zero, List.set_cons_succ]
        refine takeL (i := 12) (v := ?_) rfl (by kernel_rfl) (by kernel_rfl) (by kernel_rfl) (fun _ _ _ h => h) (Or.inl ⟨by rfl, ?_⟩) hHeld ?_
        rotate_left
        focus (intro wq hSw; clear hSw; go_simp; try with_reducible rfl)
        try simp only [Act.put, List.setIfInBounds_toArray, List.set_cons_zero, List.set_cons_succ]
        refine wpAnyH_done (by kernel_rfl) ?_ _
        refine NoPanic.normal ?_
        try simp only [Exit.then]
        have hW := Old.trans hH3 hHeld
        clear r3 hO3 hH3 hHeld
        have hB1 := Blk.below H.out.1 hW
        have f3 := hB1.frozen 3
        have q3 := hB1.cell 3
        simp at q3
        have r1' := H.out.2.1.below hW
        have r2' := H.out.2.2.1.below hW
        have H9 := Lib.hid (And.intro hB1 (And.intro r1' (And.intro r2' hW)))
        clear hB1 r1' r2' hW
        try simp only [hbe]
        go_wp2_with fail
        go_ret
        have ht3 : Turn [p] w3 (w3.setCell ⟨p, 3, none⟩ (.int .i64 ((t : Int) + 1))) := (Turn.refl [p] _).setCell (.inl (by simp)) _
        have hN := one_noB p (NoB.of H9.out.1 rfl)
        refine ⟨rfl, ⟨A1, 16, c1, A2, 32, c2, ?_, fun _ => ⟨rfl, rfl, H9.out.2.1.turnN (by decide) ht3 hN, H9.out.2.2.1.turnN (by decide) ht3 hN⟩⟩, (Turn.of_below [p] H9.out.2.2.2).trans ht3 (fun x hx => .inl hx)⟩
        have := H9.out.1.set_ 3 (.int .i64 ((t : Int) + 1))
        simpa using this
theorem putE_any (p d : Nat) (s : PS) (ds : DS) (left : Int) (A : Option Addr) (m c : Nat) (pin : List UInt8) (w : World) (h : PinAt w p s) (hD : DrAt w d ds left) (hr : RdE w A m c pin) (hl0 : 0 ≤ left) (hl1 : left ≤ 1000000000) (hT : KAt w) (hd : d ≠ 1) (hpk : p ≠ 1) :
    Calls Tryd.prog 14 #[.pointer (some ⟨p, 0, none⟩), .slice A m c, .pointer (some ⟨d, 0, none⟩)] w fun e w' => ∃ left', left ≤ left' ∧ left' ≤ left + 1 ∧ e = .returned (.int .i64 (s.put ds pin).1) ∧ PinAt w' p (s.put ds pin).2.1 ∧ DrAt w' d (s.put ds pin).2.2 left' ∧ Turn [p, d] w w' := by
  rcases hr with hr | ⟨rfl, rfl, rfl⟩
  · exact put_any p d s ds left A m c pin w h hD hr hl0 hl1 hT hd hpk
  · have k1 := nePin
    have k2 := neDrbg
    have hput : s.put ds [] = (0xa2, s, ds) := by unfold PS.put; rw [if_pos (by simp)]
    rw [hput]
    have H := Lib.hid (And.intro h hD)
    clear h hD hT hput
    go_enter Tryd.func14, Tryd.ntmps14
    go_wp2_with fail
    go_ret
    exact ⟨left, by omega, by omega, rfl, H.out.1, H.out.2, Turn.refl _ _⟩
theorem rputE_any (p d : Nat) (s : PS) (ds : DS) (left : Int) (A : Option Addr) (m c : Nat) (pin : List UInt8) (w : World) (h : RpAt w p s) (hD : ErAt w d ds left) (hr : RdE w A m c pin) (hl0 : 0 ≤ left) (hl1 : left ≤ 1000000000) :
    Calls Tryd.prog 15 #[.pointer (some ⟨p, 0, none⟩), .slice A m c, .pointer (some ⟨d, 0, none⟩)] w fun e w' => ∃ left', left ≤ left' ∧ left' ≤ left + 1 ∧ e = .returned (.int .i64 (s.put ds pin).1) ∧ RpAt w' p (s.put ds pin).2.1 ∧ ErAt w' d (s.put ds pin).2.2 left' ∧ Turn [p, d] w w' := by
  rcases hr with hr | ⟨rfl, rfl, rfl⟩
  · exact rput_any p d s ds left A m c pin w h hD hr hl0 hl1
  · have k2 := neErbg
    have hmay := may21_any A 0 0 w
    rw [decide_eq_true (show 0 < 4 ∨ 64 < 0 by omega)] at hmay
    have hput : s.put ds [] = (0xa2, s, ds) := by unfold PS.put; rw [if_pos (by simp)]
    rw [hput]
    have H := Lib.hid (And.intro h hD)
    clear h hD hput
    go_enter Tryd.func15, Tryd.ntmps15
    go_wp2_with fail
    refine hmay.mono ?_
    rintro e w' ⟨rfl, rfl⟩
    go_wp2_with fail
    go_ret
    exact ⟨left, by omega, by omega, rfl, H.out.1, H.out.2, Turn.refl _ _⟩
end Go.Proofs.YtdgjjmaiibafhaaDoor
