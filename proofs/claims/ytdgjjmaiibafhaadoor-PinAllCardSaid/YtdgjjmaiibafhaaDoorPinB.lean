/-
  pins: the reference.
  pins: the reference's Check, Encode.
-/
import Derived.Test.YtdgjjmaiibafhaaDoorPinA
namespace Go.Proofs.YtdgjjmaiibafhaaDoor
set_option maxRecDepth 100000
open Go.RowKit

/-- The reference's PIN in memory. -/
def RpAt (w : World) (r : Nat) (s : PS) : Prop :=
  ∃ A1 n1 c1 A2 n2 c2, Blk w r 34 #[.bool s.set, .slice A1 n1 c1, .slice A2 n2 c2, .int .i64 (s.tries : Int)] ∧ (s.set = true → n1 = 16 ∧ n2 = 32 ∧ Rd w A1 16 c1 s.salt ∧ Rd w A2 32 c2 s.hash)
theorem RpAt.lt {w : World} {p : Nat} {s : PS} (h : RpAt w p s) : p < w.heap.size := by
  obtain ⟨_, _, _, _, _, _, h, _⟩ := h
  exact h.lt
theorem RpAt.noB {w : World} {p : Nat} {s : PS} (h : RpAt w p s) : NoB w p := by
  obtain ⟨_, _, _, _, _, _, h, _⟩ := h
  exact NoB.of h rfl
theorem RpAt.below {w w' : World} {p : Nat} {s : PS} (h : RpAt w p s) (hb : Below w.heap.size w w') : RpAt w' p s := by
  obtain ⟨A1, n1, c1, A2, n2, c2, h, k⟩ := h
  exact ⟨A1, n1, c1, A2, n2, c2, h.below hb, fun e => ⟨(k e).1, (k e).2.1, (k e).2.2.1.below hb, (k e).2.2.2.below hb⟩⟩
theorem RpAt.turn {w w' : World} {p : Nat} {s : PS} {S : List Nat} (h : RpAt w p s) (ht : Turn S w w') (hd : p ∉ S) (hS : ∀ g ∈ S, NoB w g) : RpAt w' p s := by
  obtain ⟨A1, n1, c1, A2, n2, c2, h, k⟩ := h
  exact ⟨A1, n1, c1, A2, n2, c2, h.turn ht hd, fun e => ⟨(k e).1, (k e).2.1, (k e).2.2.1.turnN (by decide) ht hS, (k e).2.2.2.turnN (by decide) ht hS⟩⟩
theorem rphash_any (A : Option Addr) (m c : Nat) (pin : List UInt8) (A2 : Option Addr) (m2 c2 : Nat) (salt : List UInt8) (w : World) (hr : Rd w A m c pin) (hp : pin.length ≤ 1000) (hr2 : Rd w A2 m2 c2 salt) (hs : salt.length ≤ 1000) :
    Calls Tryd.prog 31 #[.slice A m c, .slice A2 m2 c2] w fun e w' => ∃ A c, e = .returned (.slice A 32 c) ∧ Rd w' A 32 c (pinH pin salt) ∧ Old w w' := by
  have hh := pb_all2 3 8 32 A m c pin A2 m2 c2 salt w hr hp hr2 hs
  have hl := pinH_len pin salt hp hs
  clear hr hp hr2 hs
  go_enter Tryd.func31, Tryd.ntmps31
  go_wp2_with fail
  refine hh.mono ?_
  rintro e w2 ⟨A3, n3, c3, rfl, hO3, hb3⟩
  have hn : n3 = 32 := by rw [hO3.1]; exact hl
  subst hn
  have H3 := Lib.hid (And.intro hO3 hb3)
  clear hh hO3 hb3 hl
  go_wp2_with fail
  go_ret
  exact ⟨A3, c3, rfl, H3.out.1, H3.out.2⟩
theorem may21_any (A : Option Addr) (m c : Nat) (w : World) : Calls Tryd.prog 29 #[.slice A m c] w fun e w' => e = .returned (.bool (!decide (m < 4 ∨ 64 < m))) ∧ w = w' := by
  by_cases h1 : m < 4
  · have t1 : ¬ (4 : Int) ≤ m := by omega
    have t1d : decide ((4 : Int) ≤ (m : Int)) = false := decide_eq_false t1
    have t2 : (m : Int) < 4 := by omega
    rw [decide_eq_true (Or.inl h1)]
    go_enter Tryd.func29, Tryd.ntmps29
    go_wp2_with fail
    go_ret
    exact ⟨rfl, rfl⟩
  · have t1 : (4 : Int) ≤ m := by omega
    have t1d : decide ((4 : Int) ≤ (m : Int)) = true := decide_eq_true t1
    by_cases h2 : 64 < m
    · have t2 : ¬ (m : Int) ≤ 64 := by omega
      have t2d : decide ((m : Int) ≤ 64) = false := decide_eq_false t2
      rw [decide_eq_true (Or.inr h2)]
      go_enter Tryd.func29, Tryd.ntmps29
      go_wp2_with fail
      go_ret
      exact ⟨rfl, rfl⟩
    · have t2 : (m : Int) ≤ 64 := by omega
      have t2d : decide ((m : Int) ≤ 64) = true := decide_eq_true t2
      rw [decide_eq_false (by omega)]
      go_enter Tryd.func29, Tryd.ntmps29
      go_wp2_with fail
      go_ret
      exact ⟨rfl, rfl⟩
theorem neErbg (w : World) (a : Addr) : (binOp .eql 37 (.pointer (some a)) (.pointer none)).run Tryd.prog w = .ok (.bool false) w := by kernel_rfl
set_option maxHeartbeats 1000000 in
theorem rput_any (p d : Nat) (s : PS) (ds : DS) (left : Int) (A : Option Addr) (m c : Nat) (pin : List UInt8) (w : World) (h : RpAt w p s) (hD : ErAt w d ds left) (hr : Rd w A m c pin) (hl0 : 0 ≤ left) (hl1 : left ≤ 1000000000) :
    Calls Tryd.prog 15 #[.pointer (some ⟨p, 0, none⟩), .slice A m c, .pointer (some ⟨d, 0, none⟩)] w fun e w' => ∃ left', left ≤ left' ∧ left' ≤ left + 1 ∧ e = .returned (.int .i64 (s.put ds pin).1) ∧ RpAt w' p (s.put ds pin).2.1 ∧ ErAt w' d (s.put ds pin).2.2 left' ∧ Turn [p, d] w w' := by
  have k2 := neErbg
  have hm : m = pin.length := hr.1
  have hmay := may21_any A m c w
  unfold PS.put
  by_cases hlen : pin.length < 4 ∨ 64 < pin.length
  · rw [if_pos hlen]
    rw [decide_eq_true (show m < 4 ∨ 64 < m by omega)] at hmay
    have H := Lib.hid (And.intro h (And.intro hD True.intro))
    clear h hD hr hm hlen
    go_enter Tryd.func15, Tryd.ntmps15
    go_wp2_with fail
    refine hmay.mono ?_
    rintro e w' ⟨rfl, rfl⟩
    go_wp2_with fail
    go_ret
    exact ⟨left, by omega, by omega, rfl, H.out.1, H.out.2.1, Turn.refl _ _⟩
  · rw [if_neg hlen]
    rw [decide_eq_false (show ¬ (m < 4 ∨ 64 < m) by omega)] at hmay
    have hp4 : 0 < m := by omega
    have hpl : pin.length ≤ 1000 := by omega
    obtain ⟨B1, m1, d1, B2, m2, d2, hB, _⟩ := h
    have hpd : p ≠ d := by
      obtain ⟨_, _, _, _, hB2, _⟩ := hD
      exact Blk.ne_ hB hB2 (by decide)
    have q0 := hB.cell 0
    have f0 := hB.frozen 0
    simp at q0
    obtain ⟨w1, hw1⟩ : ∃ w1, w.setCell ⟨p, 0, none⟩ (.bool true) = w1 := ⟨_, rfl⟩
    have hB1 : Blk w1 p 34 #[.bool true, .slice B1 m1 d1, .slice B2 m2 d2, .int .i64 (s.tries : Int)] := by
      rw [← hw1]
      have := hB.set_ 0 (.bool true)
      simpa using this
    have hT0 : Turn [p] w w1 := by
      rw [← hw1]
      exact (Turn.refl _ _).setCell (.inl (by simp)) _
    have hN0 := one_noB p (NoB.of hB rfl)
    have hD1 : ErAt w1 d ds left := hD.turn hT0 (by simp; exact fun e => hpd e.symm) hN0
    have hr1 : Rd w1 A m c pin := hr.turnN hp4 hT0 hN0
    have hby := rbytes_any d ds left 16 w1 hD1 (by omega) (by omega) hl0 hl1
    have hbl := DS.bytes_len hD.ok 16
    obtain ⟨salt, ds', hbs⟩ : ∃ salt ds', ds.bytes 16 = (salt, ds') := ⟨_, _, rfl⟩
    rw [hbs] at hby hbl ⊢
    simp only at hby hbl ⊢
    obtain ⟨PH, hPH⟩ : ∃ PH, pinH pin salt = PH := ⟨_, rfl⟩
    rw [hPH]
    have HPH := Lib.hid hPH
    clear hPH
    have H := Lib.hid (And.intro hB1 (And.intro hr1 (And.intro hT0 (And.intro hpd (And.intro hp4 (And.intro hpl (And.intro hbl (And.intro hD1.noB hw1))))))))
    clear hB hB1 hD hD1 hr hr1 hT0 hN0 hm hlen hpd hp4 hpl hbl hbs hw1
    go_enter Tryd.func15, Tryd.ntmps15
    go_wp2_with fail
    refine hmay.mono ?_
    rintro e w' ⟨rfl, rfl⟩
    go_wp2_with fail
    rw [H.out.2.2.2.2.2.2.2.2]
    refine hby.mono ?_
    rintro e w2 ⟨A1, c1, rfl, r1, hf1, hD2, hT2⟩
    have hB2 := Blk.turn H.out.1 hT2 (by simp; exact H.out.2.2.2.1)
    have f1 := hB2.frozen 1
    have q1 := hB2.cell 1
    simp at q1
    obtain ⟨w3, hw3⟩ : ∃ w3, w2.setCell ⟨p, 1, none⟩ (.slice A1 16 c1) = w3 := ⟨_, rfl⟩
    have hB3 : Blk w3 p 34 #[.bool true, .slice A1 16 c1, .slice B2 m2 d2, .int .i64 (s.tries : Int)] := by
      rw [← hw3]
      have := hB2.set_ 1 (.slice A1 16 c1)
      simpa using this
    have hT3 : Turn [p] w2 w3 := by
      rw [← hw3]
      exact (Turn.refl _ _).setCell (.inl (by simp)) _
    have hN2 := one_noB p (NoB.of hB2 rfl)
    have r3 : Rd w3 A1 16 c1 salt := r1.turnN (by decide) hT3 hN2
    have hD3 : ErAt w3 d ds' (left + 1) := hD2.turn hT3 (by simp; exact fun e => H.out.2.2.2.1 e.symm) hN2
    have hp3 : Rd w3 A m c pin := (H.out.2.1.turnN H.out.2.2.2.2.1 hT2 (one_noB d H.out.2.2.2.2.2.2.2.1)).turnN H.out.2.2.2.2.1 hT3 hN2
    have hph := rphash_any A m c pin A1 16 c1 salt w3 hp3 H.out.2.2.2.2.2.1 r3 (by rw [H.out.2.2.2.2.2.2.1]; omega)
    rw [HPH.out] at hph
    have hTw : Turn [p, d] w w3 := ((H.out.2.2.1.more (by simp)).trans hT2 (fun x hx => .inl (by simp at hx; simp [hx]))).trans hT3 (fun x hx => .inl (by simp at hx; simp [hx]))
    have q1' : w3.cell? ⟨p, 1, none⟩ = some (.slice A1 16 c1) := by have := hB3.cell 1; simpa using this
    rw [← hw3] at q1'
    have H3 := Lib.hid (And.intro hB3 (And.intro r3 (And.intro hD3 (And.intro hTw hw3))))
    clear hby hB2 hB3 hT3 hN2 r1 hf1 hD2 hT2 r3 hD3 hp3 hTw hw3
    go_wp2_with fail
    rw [H3.out.2.2.2.2]
    refine hph.mono ?_
    rintro e w4 ⟨A3, c3, rfl, r4, hO4⟩
    have hB4 := Blk.below H3.out.1 hO4
    have f2 := hB4.frozen 2
    have f3 := hB4.frozen 3
    have q2 := hB4.cell 2
    have q3 := hB4.cell 3
    simp at q2 q3
    have H4 := Lib.hid (And.intro hB4 (And.intro r4 hO4))
    clear hph hB4 r4 hO4 q1'
    go_wp2_with fail
    go_ret
    have ht3 : Turn [p] w4 ((w4.setCell ⟨p, 2, none⟩ (.slice A3 32 c3)).setCell ⟨p, 3, none⟩ (.int .i64 0)) := ((Turn.refl [p] w4).setCell (.inl (by simp)) _).setCell (.inl (by simp)) _
    have hN4 := one_noB p (NoB.of H4.out.1 rfl)
    refine ⟨left + 1, by omega, by omega, rfl, ⟨A1, 16, c1, A3, 32, c3, ?_, fun _ => ⟨rfl, rfl, (H3.out.2.1.below H4.out.2.2).turnN (by decide) ht3 hN4, H4.out.2.1.turnN (by decide) ht3 hN4⟩⟩, (H3.out.2.2.1.below H4.out.2.2).turn ht3 (by simp; exact fun e => H.out.2.2.2.1 e.symm) hN4, ?_⟩
    · have := (H4.out.1.set_ 2 (.slice A3 32 c3)).set_ 3 (.int .i64 0)
      simpa using this
    · exact (H3.out.2.2.2.1.trans (Turn.of_below [p] H4.out.2.2) (fun x hx => .inl (by simp at hx; simp [hx]))).trans ht3 (fun x hx => .inl (by simp at hx; simp [hx]))
theorem rclear_any (p : Nat) (s : PS) (w : World) (h : RpAt w p s) : Calls Tryd.prog 19 #[.pointer (some ⟨p, 0, none⟩)] w fun e w' => e = .returned (.tuple #[]) ∧ RpAt w' p PS.none ∧ Turn [p] w w' := by
  obtain ⟨A1, n1, c1, A2, n2, c2, hB, _⟩ := h
  have q0 := hB.cell 0
  have q3 := hB.cell 3
  have f0 := hB.frozen 0
  have f3 := hB.frozen 3
  simp at q0 q3
  have H := Lib.hid hB
  clear hB
  go_enter Tryd.func19, Tryd.ntmps19
  go_wp2_with fail
  refine bodyPost_end (results_none rfl _ _ _) rfl ?_
  refine ⟨rfl, ⟨A1, n1, c1, A2, n2, c2, ?_, fun e => by cases e⟩, ((Turn.refl [p] w).setCell (.inl (by simp)) _).setCell (.inl (by simp)) _⟩
  have := (H.out.set_ 0 (.bool false)).set_ 3 (.int .i64 0)
  simpa [PS.none] using this
end Go.Proofs.YtdgjjmaiibafhaaDoor
namespace Go.Proofs.YtdgjjmaiibafhaaDoor
set_option maxRecDepth 100000
open Go.RowKit

set_option maxHeartbeats 1000000 in
theorem rcheck_any (p : Nat) (s : PS) (A : Option Addr) (m c : Nat) (pin : List UInt8) (w : World) (h : RpAt w p s) (hok : s.Ok) (hr : Rd w A m c pin) (hp : pin.length ≤ 1000) :
    Calls Tryd.prog 17 #[.pointer (some ⟨p, 0, none⟩), .slice A m c] w fun e w' => e = .returned (.int .i64 (s.check pin).1) ∧ RpAt w' p (s.check pin).2 ∧ Turn [p] w w' := by
  have HS := Lib.hid h
  obtain ⟨A1, n1, c1, A2, n2, c2, hB, hk⟩ := h
  have q0 := hB.cell 0
  have q3 := hB.cell 3
  simp at q0 q3
  cases h1 : s.set with
  | false =>
    rw [h1] at q0
    have hc : s.check pin = (0x102, s) := by unfold PS.check; rw [if_pos h1]
    rw [hc]
    clear hB hk hr hc h1
    go_enter Tryd.func17, Tryd.ntmps17
    go_wp2_with fail
    go_ret
    exact ⟨rfl, HS.out, Turn.refl _ _⟩
  | true =>
    rw [h1] at q0
    by_cases h3 : 3 ≤ s.tries
    · have hc : s.check pin = (0xa4, s) := by unfold PS.check; rw [if_neg (by simp [h1]), if_pos h3]
      rw [hc]
      have t3 : (3 : Int) ≤ s.tries := by omega
      have t3d : decide ((3 : Int) ≤ (s.tries : Int)) = true := decide_eq_true t3
      clear hB hk hr hc h1 h3
      go_enter Tryd.func17, Tryd.ntmps17
      go_wp2_with fail
      go_ret
      exact ⟨rfl, HS.out, Turn.refl _ _⟩
    · obtain ⟨rfl, rfl, r1, r2⟩ := hk h1
      have t3 : ¬ (3 : Int) ≤ s.tries := by omega
      have t3d : decide ((3 : Int) ≤ (s.tries : Int)) = false := decide_eq_false t3
      have q1 := hB.cell 1
      have q2 := hB.cell 2
      simp at q1 q2
      have htl : s.tries ≤ 3 := hok.tries
      have hsl := hok.salt h1
      have hchk : s.check pin = if pinH pin s.salt = s.hash then (0, { s with tries := 0 }) else (0xa0, { s with tries := s.tries + 1 }) := by unfold PS.check; rw [if_neg (by simp [h1]), if_neg h3]
      rw [hchk]
      obtain ⟨set, salt, hash, t⟩ := s
      simp only at *
      subst h1
      obtain ⟨PH, hPH⟩ : ∃ PH, pinH pin salt = PH := ⟨_, rfl⟩
      rw [hPH]
      have H := Lib.hid (And.intro hB (And.intro r1 (And.intro r2 (And.intro hr (And.intro hPH (And.intro q1 (And.intro q2 (And.intro hp hsl))))))))
      clear hr h3 hB r1 r2 hPH hchk q1 q2 hp hsl hok hk HS
      by_cases heq : PH = hash
      · have hbe : (PH == hash) = true := by simpa using heq
        rw [if_pos heq]
        clear heq
        go_enter Tryd.func17, Tryd.ntmps17
        go_wp2_with fail
        refine region_old (by kernel_rfl) (fun wd hHeld hSz => ?_)
        have HSz := Lib.hid hSz
        clear hSz
        refine takeL (i := 0) (v := ?_) rfl (by kernel_rfl) (by kernel_rfl) (by kernel_rfl) (fun _ _ _ h => h) (Or.inl ⟨by rfl, ?_⟩) hHeld ?_
        rotate_left
        focus (intro wq hSw; clear hSw; go_simp; try with_reducible rfl)
        try simp only [Act.put, List.setIfInBounds_toArray, List.set_cons_zero, List.set_cons_succ]
        refine takeL (i := 1) (v := ?_) rfl (by kernel_rfl) (by kernel_rfl) (by kernel_rfl) (fun _ _ _ h => h) (Or.inl ⟨by rfl, ?_⟩) hHeld ?_
        rotate_left
        focus (intro wq hSw; clear hSw; go_simp; try with_reducible rfl)
        try simp only [Act.put, List.setIfInBounds_toArray, List.set_cons_zero, List.set_cons_succ]
        refine takeL (i := 2) (v := ?_) rfl (by kernel_rfl) (by kernel_rfl) (by kernel_rfl) (fun _ _ _ h => h) (Or.inl ⟨by rfl, ?_⟩) hHeld ?_
        rotate_left
        focus (intro wq hSw; clear hSw; go_simp; try with_reducible rfl)
        try simp only [Act.put, List.setIfInBounds_toArray, List.set_cons_zero, List.set_cons_succ]
        refine takeL (i := 3) (v := ?_) rfl (by kernel_rfl) (by kernel_rfl) (by kernel_rfl) (fun _ _ _ h => h) (Or.inl ⟨by rfl, ?_⟩) hHeld ?_
        rotate_left
        focus (intro wq hSw; clear hSw; go_simp; try with_reducible rfl)
        try simp only [Act.put, List.setIfInBounds_toArray, List.set_cons_zero, List.set_cons_succ]
        refine takeL (i := 4) (v := ?_) rfl (by kernel_rfl) (by kernel_rfl) (by kernel_rfl) (fun _ _ _ h => h) (Or.inl ⟨by rfl, ?_⟩) hHeld ?_
        rotate_left
        focus (intro wq hSw; have q1 := cellOld hSw H.out.2.2.2.2.2.1; clear hSw; go_simp; try with_reducible rfl)
        try simp only [Act.put, List.setIfInBounds_toArray, List.set_cons_zero, List.set_cons_succ]
        refine takeL (i := 7) (v := ?_) rfl (by kernel_rfl) (by kernel_rfl) (by kernel_rfl) (fun _ _ _ h => h) (Or.inl ⟨by rfl, ?_⟩) hHeld ?_
        rotate_left
        focus (intro wq hSw; clear hSw; go_simp; try with_reducible rfl)
        try simp only [Act.put, List.setIfInBounds_toArray, List.set_cons_zero, List.set_cons_succ]
        refine takeL (i := 8) (v := ?_) rfl (by kernel_rfl) (by kernel_rfl) (by kernel_rfl) (fun _ _ _ h => h) (Or.inl ⟨by rfl, ?_⟩) hHeld ?_
        rotate_left
        focus (intro wq hSw; clear hSw; go_simp; try with_reducible rfl)
        try simp only [Act.put, List.setIfInBounds_toArray, List.set_cons_zero, List.set_cons_succ]
        refine takeL (i := 9) (v := ?_) rfl (by kernel_rfl) (by kernel_rfl) (by kernel_rfl) (fun _ _ _ h => h) (Or.inl ⟨by rfl, ?_⟩) hHeld ?_
        rotate_left
        focus (intro wq hSw; clear hSw; go_simp; try with_reducible rfl)
        try simp only [Act.put, List.setIfInBounds_toArray, List.set_cons_zero, List.set_cons_succ]
        refine takeL (i := 10) (v := ?_) rfl (by kernel_rfl) (by kernel_rfl) (by kernel_rfl) (fun _ _ _ h => h) (Or.inl ⟨by rfl, ?_⟩) hHeld ?_
        rotate_left
        focus (intro wq hSw; have q2 := cellOld hSw H.out.2.2.2.2.2.2.1; clear hSw; go_simp; try with_reducible rfl)
        try simp only [Act.put, List.setIfInBounds_toArray, List.set_cons_zero, List.set_cons_succ]
        refine takeL (i := 11) (v := ?_) rfl (by kernel_rfl) (by kernel_rfl) (by kernel_rfl) (fun _ _ _ h => h) (Or.inl ⟨by rfl, ?_⟩) hHeld ?_
        rotate_left
        focus (intro wq hSw; have hRun := (H.out.2.2.1.below hSw).str; clear hSw; go_simp; try with_reducible rfl)
        try simp only [Act.put, List.setIfInBounds_toArray, List.set_cons_zero, List.set_cons_succ]
        refine wpAnyH_ready (rs := [5]) (by kernel_rfl) (by simp) ?_
        refine consL rfl (fun K hK => ?_) AllReadyH.nil
        go_simp
        refine (rphash_any A m c pin A1 16 c1 salt wd (H.out.2.2.2.1.below hHeld) H.out.2.2.2.2.2.2.2.1 (H.out.2.1.below hHeld) (by rw [H.out.2.2.2.2.2.2.2.2]; omega)).mono ?_
        rintro e w3 ⟨A3, c3, rfl, r3, hO3⟩
        rw [H.out.2.2.2.2.1] at r3
        have hH3 := Old.trans hHeld hO3
        refine hK.out _ _ hH3 (fun hHeld => ?_)
        clear hK K
        try simp only [Act.put, List.setIfInBounds_toArray, List.set_cons_zero, List.set_cons_succ]
        refine wpAnyH_old (w1 := w3) hH3 (fun hHeld => ?_) (Old.refl _)
        refine takeL (i := 6) (v := ?_) rfl (by kernel_rfl) (by kernel_rfl) (by kernel_rfl) (fun _ _ _ h => h) (Or.inl ⟨by rfl, ?_⟩) hHeld ?_
        rotate_left
        focus (intro wq hSw; have hRun := r3.str_below hSw; clear hSw; go_simp; try with_reducible rfl)
        try simp only [Act.put, List.setIfInBounds_toArray, List.set_cons_zero, List.set_cons_succ]
        refine takeL (i := 12) (v := ?_) rfl (by kernel_rfl) (by kernel_rfl) (by kernel_rfl) (fun _ _ _ h => h) (Or.inl ⟨by rfl, ?_⟩) hHeld ?_
        rotate_left
        focus (intro wq hSw; clear hSw; go_simp; try with_reducible rfl)
        try simp only [Act.put, List.setIfInBounds_toArray, List.set_cons_zero, List.set_cons_succ]
        refine wpAnyH_done (by kernel_rfl) ?_ _
        refine NoPanic.normal ?_
        try simp only [Exit.then]
        have hW := Old.trans hH3 hHeld
        clear r3 hO3 hH3 hHeld
        have hB1 := Blk.below H.out.1 hW
        have f3 := hB1.frozen 3
        have q3 := hB1.cell 3
        simp at q3
        have r1' := H.out.2.1.below hW
        have r2' := H.out.2.2.1.below hW
        have H9 := Lib.hid (And.intro hB1 (And.intro r1' (And.intro r2' hW)))
        clear hB1 r1' r2' hW
        try simp only [hbe]
        go_wp2_with fail
        go_ret
        have ht3 : Turn [p] w3 (w3.setCell ⟨p, 3, none⟩ (.int .i64 0)) := (Turn.refl [p] _).setCell (.inl (by simp)) _
        have hN := one_noB p (NoB.of H9.out.1 rfl)
        refine ⟨rfl, ⟨A1, 16, c1, A2, 32, c2, ?_, fun _ => ⟨rfl, rfl, H9.out.2.1.turnN (by decide) ht3 hN, H9.out.2.2.1.turnN (by decide) ht3 hN⟩⟩, (Turn.of_below [p] H9.out.2.2.2).trans ht3 (fun x hx => .inl hx)⟩
        have := H9.out.1.set_ 3 (.int .i64 0)
        simpa using this
      · have hbe : (PH == hash) = false := by simpa using heq
        rw [if_neg heq]
        clear heq
        go_enter Tryd.func17, Tryd.ntmps17
        go_wp2_with fail
        refine region_old (by kernel_rfl) (fun wd hHeld hSz => ?_)
        have HSz := Lib.hid hSz
        clear hSz
        refine takeL (i := 0) (v := ?_) rfl (by kernel_rfl) (by kernel_rfl) (by kernel_rfl) (fun _ _ _ h => h) (Or.inl ⟨by rfl, ?_⟩) hHeld ?_
        rotate_left
        focus (intro wq hSw; clear hSw; go_simp; try with_reducible rfl)
        try simp only [Act.put, List.setIfInBounds_toArray, List.set_cons_zero, List.set_cons_succ]
        refine takeL (i := 1) (v := ?_) rfl (by kernel_rfl) (by kernel_rfl) (by kernel_rfl) (fun _ _ _ h => h) (Or.inl ⟨by rfl, ?_⟩) hHeld ?_
        rotate_left
        focus (intro wq hSw; clear hSw; go_simp; try with_reducible rfl)
        try simp only [Act.put, List.setIfInBounds_toArray, List.set_cons_zero, List.set_cons_succ]
        refine takeL (i := 2) (v := ?_) rfl (by kernel_rfl) (by kernel_rfl) (by kernel_rfl) (fun _ _ _ h => h) (Or.inl ⟨by rfl, ?_⟩) hHeld ?_
        rotate_left
        focus (intro wq hSw; clear hSw; go_simp; try with_reducible rfl)
        try simp only [Act.put, List.setIfInBounds_toArray, List.set_cons_zero, List.set_cons_succ]
        refine takeL (i := 3) (v := ?_) rfl (by kernel_rfl) (by kernel_rfl) (by kernel_rfl) (fun _ _ _ h => h) (Or.inl ⟨by rfl, ?_⟩) hHeld ?_
        rotate_left
        focus (intro wq hSw; clear hSw; go_simp; try with_reducible rfl)
        try simp only [Act.put, List.setIfInBounds_toArray, List.set_cons_zero, List.set_cons_succ]
        refine takeL (i := 4) (v := ?_) rfl (by kernel_rfl) (by kernel_rfl) (by kernel_rfl) (fun _ _ _ h => h) (Or.inl ⟨by rfl, ?_⟩) hHeld ?_
        rotate_left
        focus (intro wq hSw; have q1 := cellOld hSw H.out.2.2.2.2.2.1; clear hSw; go_simp; try with_reducible rfl)
        try simp only [Act.put, List.setIfInBounds_toArray, List.set_cons_zero, List.set_cons_succ]
        refine takeL (i := 7) (v := ?_) rfl (by kernel_rfl) (by kernel_rfl) (by kernel_rfl) (fun _ _ _ h => h) (Or.inl ⟨by rfl, ?_⟩) hHeld ?_
        rotate_left
        focus (intro wq hSw; clear hSw; go_simp; try with_reducible rfl)
        try simp only [Act.put, List.setIfInBounds_toArray, List.set_cons_zero, List.set_cons_succ]
        refine takeL (i := 8) (v := ?_) rfl (by kernel_rfl) (by kernel_rfl) (by kernel_rfl) (fun _ _ _ h => h) (Or.inl ⟨by rfl, ?_⟩) hHeld ?_
        rotate_left
        focus (intro wq hSw; clear hSw; go_simp; try with_reducible rfl)
        try simp only [Act.put, List.setIfInBounds_toArray, List.set_cons_zero, List.set_cons_succ]
        refine takeL (i := 9) (v := ?_) rfl (by kernel_rfl) (by kernel_rfl) (by kernel_rfl) (fun _ _ _ h => h) (Or.inl ⟨by rfl, ?_⟩) hHeld ?_
        rotate_left
        focus (intro wq hSw; clear hSw; go_simp; try with_reducible rfl)
        try simp only [Act.put, List.setIfInBounds_toArray, List.set_cons_zero, List.set_cons_succ]
        refine takeL (i := 10) (v := ?_) rfl (by kernel_rfl) (by kernel_rfl) (by kernel_rfl) (fun _ _ _ h => h) (Or.inl ⟨by rfl, ?_⟩) hHeld ?_
        rotate_left
        focus (intro wq hSw; have q2 := cellOld hSw H.out.2.2.2.2.2.2.1; clear hSw; go_simp; try with_reducible rfl)
        try simp only [Act.put, List.setIfInBounds_toArray, List.set_cons_zero, List.set_cons_succ]
        refine takeL (i := 11) (v := ?_) rfl (by kernel_rfl) (by kernel_rfl) (by kernel_rfl) (fun _ _ _ h => h) (Or.inl ⟨by rfl, ?_⟩) hHeld ?_
        rotate_left
        focus (intro wq hSw; have hRun := (H.out.2.2.1.below hSw).str; clear hSw; go_simp; try with_reducible rfl)
        try simp only [Act.put, List.setIfInBounds_toArray, List.set_cons_zero, List.set_cons_succ]
        refine wpAnyH_ready (rs := [5]) (by kernel_rfl) (by simp) ?_
        refine consL rfl (fun K hK => ?_) AllReadyH.nil
        go_simp
        refine (rphash_any A m c pin A1 16 c1 salt wd (H.out.2.2.2.1.below hHeld) H.out.2.2.2.2.2.2.2.1 (H.out.2.1.below hHeld) (by rw [H.out.2.2.2.2.2.2.2.2]; omega)).mono ?_
        rintro e w3 ⟨A3, c3, rfl, r3, hO3⟩
        rw [H.out.2.2.2.2.1] at r3
        have hH3 := Old.trans hHeld hO3
        refine hK.out _ _ hH3 (fun hHeld => ?_)
        clear hK K
        try simp only [Act.put, List.setIfInBounds_toArray, List.set_cons_zero, List.set_cons_succ]
        refine wpAnyH_old (w1 := w3) hH3 (fun hHeld => ?_) (Old.refl _)
        refine takeL (i := 6) (v := ?_) rfl (by kernel_rfl) (by kernel_rfl) (by kernel_rfl) (fun _ _ _ h => h) (Or.inl ⟨by rfl, ?_⟩) hHeld ?_
        rotate_left
        focus (intro wq hSw; have hRun := r3.str_below hSw; clear hSw; go_simp; try with_reducible rfl)
        try simp only [Act.put, List.setIfInBounds_toArray, List.set_cons_zero, List.set_cons_succ]
        refine takeL (i := 12) (v := ?_) rfl (by kernel_rfl) (by kernel_rfl) (by kernel_rfl) (fun _ _ _ h => h) (Or.inl ⟨by rfl, ?_⟩) hHeld ?_
        rotate_left
        focus (intro wq hSw; clear hSw; go_simp; try with_reducible rfl)
        try simp only [Act.put, List.setIfInBounds_toArray, List.set_cons_zero, List.set_cons_succ]
        refine wpAnyH_done (by kernel_rfl) ?_ _
        refine NoPanic.normal ?_
        try simp only [Exit.then]
        have hW := Old.trans hH3 hHeld
        clear r3 hO3 hH3 hHeld
        have hB1 := Blk.below H.out.1 hW
        have f3 := hB1.frozen 3
        have q3 := hB1.cell 3
        simp at q3
        have r1' := H.out.2.1.below hW
        have r2' := H.out.2.2.1.below hW
        have H9 := Lib.hid (And.intro hB1 (And.intro r1' (And.intro r2' hW)))
        clear hB1 r1' r2' hW
        try simp only [hbe]
        go_wp2_with fail
        go_ret
        have ht3 : Turn [p] w3 (w3.setCell ⟨p, 3, none⟩ (.int .i64 ((t : Int) + 1))) := (Turn.refl [p] _).setCell (.inl (by simp)) _
        have hN := one_noB p (NoB.of H9.out.1 rfl)
        refine ⟨rfl, ⟨A1, 16, c1, A2, 32, c2, ?_, fun _ => ⟨rfl, rfl, H9.out.2.1.turnN (by decide) ht3 hN, H9.out.2.2.1.turnN (by decide) ht3 hN⟩⟩, (Turn.of_below [p] H9.out.2.2.2).trans ht3 (fun x hx => .inl hx)⟩
        have := H9.out.1.set_ 3 (.int .i64 ((t : Int) + 1))
        simpa using this
set_option maxHeartbeats 1000000 in
theorem renc_any (p : Nat) (s : PS) (w : World) (h : RpAt w p s) (hok : s.Ok) :
    Calls Tryd.prog 20 #[.pointer (some ⟨p, 0, none⟩)] w fun e w' => ∃ A n c, e = .returned (.slice A n c) ∧ Rd w' A n c s.enc ∧ Old w w' := by
  obtain ⟨A1, n1, c1, A2, n2, c2, hB, hk⟩ := h
  have q0 := hB.cell 0
  simp at q0
  unfold PS.enc
  cases h1 : s.set with
  | false =>
    rw [if_pos rfl]
    rw [h1] at q0
    clear hB hk h1 hok
    go_enter Tryd.func20, Tryd.ntmps20
    go_wp2_with fail
    go_ret
    exact ⟨_, _, _, rfl, rd_lit (l2 := [0]) rfl rfl (by simp), (Old.refl _).alloc _⟩
  | true =>
    rw [if_neg (by simp)]
    rw [h1] at q0
    obtain ⟨rfl, rfl, r1, r2⟩ := hk h1
    have q1 := hB.cell 1
    have q2 := hB.cell 2
    have q3 := hB.cell 3
    simp at q1 q2 q3
    have htl : s.tries ≤ 3 := hok.tries
    have hsl := hok.salt h1
    have hhl := hok.hash h1
    obtain ⟨set, salt, hash, t⟩ := s
    simp only at *
    have g1 : IntKind.u8.wrap (t : Int) = (t : Int) := wraps_u8 _ (by omega) (by show (t : Int) < 256; omega)
    have htb : (UInt8.ofNat t).toNat = t := by simp []; omega
    have H := Lib.hid (And.intro hB (And.intro r1 (And.intro r2 (And.intro q1 (And.intro q2 (And.intro q3 (And.intro hsl (And.intro hhl htb))))))))
    obtain ⟨L, hL⟩ : ∃ L, [1, UInt8.ofNat t] ++ salt ++ hash = L := ⟨_, rfl⟩
    rw [hL]
    have HL := Lib.hid hL
    clear hB r1 r2 q1 q2 q3 hsl hhl htb h1 hok hk hL
    go_enter Tryd.func20, Tryd.ntmps20
    go_wp2_with fail
    refine region_old (by kernel_rfl) (fun wd hHeld hSz => ?_)
    have hOd := hHeld
    have HSz := Lib.hid hSz
    clear hSz
    refine takeL (i := 0) (v := ?_) rfl (by kernel_rfl) (by kernel_rfl) (by kernel_rfl) (fun _ _ _ h => h) (Or.inl ⟨by rfl, ?_⟩) hHeld ?_
    rotate_left
    focus (intro wq hSw; clear hSw; go_simp; try with_reducible rfl)
    try simp only [Act.put, List.setIfInBounds_toArray, List.set_cons_zero, List.set_cons_succ]
    refine takeL (i := 1) (v := ?_) rfl (by kernel_rfl) (by kernel_rfl) (by kernel_rfl) (fun _ _ _ h => h) (Or.inl ⟨by rfl, ?_⟩) hHeld ?_
    rotate_left
    focus (intro wq hSw; clear hSw; go_simp; try with_reducible rfl)
    try simp only [Act.put, List.setIfInBounds_toArray, List.set_cons_zero, List.set_cons_succ]
    refine takeL (i := 2) (v := ?_) rfl (by kernel_rfl) (by kernel_rfl) (by kernel_rfl) (fun _ _ _ h => h) (Or.inl ⟨by rfl, ?_⟩) hHeld ?_
    rotate_left
    focus (intro wq hSw; clear hSw; go_simp; try with_reducible rfl)
    try simp only [Act.put, List.setIfInBounds_toArray, List.set_cons_zero, List.set_cons_succ]
    refine takeL (i := 3) (v := ?_) rfl (by kernel_rfl) (by kernel_rfl) (by kernel_rfl) (fun _ _ _ h => h) (Or.inl ⟨by rfl, ?_⟩) hHeld ?_
    rotate_left
    focus (intro wq hSw; have q3 := cellOld hSw H.out.2.2.2.2.2.1; clear hSw; go_simp; try with_reducible rfl)
    try simp only [Act.put, List.setIfInBounds_toArray, List.set_cons_zero, List.set_cons_succ]
    refine takeL (i := 4) (v := ?_) rfl (by kernel_rfl) (by kernel_rfl) (by kernel_rfl) (fun _ _ _ h => h) (Or.inl ⟨by rfl, ?_⟩) hHeld ?_
    rotate_left
    focus (intro wq hSw; clear hSw; go_simp; try with_reducible rfl)
    try simp only [Act.put, List.setIfInBounds_toArray, List.set_cons_zero, List.set_cons_succ]
    refine takeL (i := 6) (v := ?_) rfl (by kernel_rfl) (by kernel_rfl) (by kernel_rfl) (fun _ _ _ h => h) (Or.inl ⟨by rfl, ?_⟩) hHeld ?_
    rotate_left
    focus (intro wq hSw; clear hSw; go_simp; try with_reducible rfl)
    try simp only [Act.put, List.setIfInBounds_toArray, List.set_cons_zero, List.set_cons_succ]
    refine takeL (i := 7) (v := ?_) rfl (by kernel_rfl) (by kernel_rfl) (by kernel_rfl) (fun _ _ _ h => h) (Or.inl ⟨by rfl, ?_⟩) hHeld ?_
    rotate_left
    focus (intro wq hSw; clear hSw; go_simp; try with_reducible rfl)
    try simp only [Act.put, List.setIfInBounds_toArray, List.set_cons_zero, List.set_cons_succ]
    refine takeL (i := 8) (v := ?_) rfl (by kernel_rfl) (by kernel_rfl) (by kernel_rfl) (fun _ _ _ h => h) (Or.inl ⟨by rfl, ?_⟩) hHeld ?_
    rotate_left
    focus (intro wq hSw; clear hSw; go_simp; try with_reducible rfl)
    try simp only [Act.put, List.setIfInBounds_toArray, List.set_cons_zero, List.set_cons_succ]
    refine takeL (i := 9) (v := ?_) rfl (by kernel_rfl) (by kernel_rfl) (by kernel_rfl) (fun _ _ _ h => h) (Or.inl ⟨by rfl, ?_⟩) hHeld ?_
    rotate_left
    focus (intro wq hSw; have q1 := cellOld hSw H.out.2.2.2.1; clear hSw; go_simp; try with_reducible rfl)
    try simp only [Act.put, List.setIfInBounds_toArray, List.set_cons_zero, List.set_cons_succ]
    refine takeL (i := 10) (v := ?_) rfl (by kernel_rfl) (by kernel_rfl) (by kernel_rfl) (fun _ _ _ h => h) (Or.inl ⟨by rfl, ?_⟩) hHeld ?_
    rotate_left
    focus (intro wq hSw; clear hSw; go_simp; try with_reducible rfl)
    try simp only [Act.put, List.setIfInBounds_toArray, List.set_cons_zero, List.set_cons_succ]
    refine takeL (i := 11) (v := ?_) rfl (by kernel_rfl) (by kernel_rfl) (by kernel_rfl) (fun _ _ _ h => h) (Or.inl ⟨by rfl, ?_⟩) hHeld ?_
    rotate_left
    focus (intro wq hSw; clear hSw; go_simp; try with_reducible rfl)
    try simp only [Act.put, List.setIfInBounds_toArray, List.set_cons_zero, List.set_cons_succ]
    refine takeL (i := 12) (v := ?_) rfl (by kernel_rfl) (by kernel_rfl) (by kernel_rfl) (fun _ _ _ h => h) (Or.inl ⟨by rfl, ?_⟩) hHeld ?_
    rotate_left
    focus (intro wq hSw; clear hSw; go_simp; try with_reducible rfl)
    try simp only [Act.put, List.setIfInBounds_toArray, List.set_cons_zero, List.set_cons_succ]
    refine takeL (i := 13) (v := ?_) rfl (by kernel_rfl) (by kernel_rfl) (by kernel_rfl) (fun _ _ _ h => h) (Or.inl ⟨by rfl, ?_⟩) hHeld ?_
    rotate_left
    focus (intro wq hSw; have q2 := cellOld hSw H.out.2.2.2.2.1; clear hSw; go_simp; try with_reducible rfl)
    try simp only [Act.put, List.setIfInBounds_toArray, List.set_cons_zero, List.set_cons_succ]
    refine wpAnyH_ready (rs := [5]) (by kernel_rfl) (by simp) ?_
    refine consL rfl (fun K hK => ?_) AllReadyH.nil
    go_simp
    refine hK.out _ _ (by repeat (first | exact hHeld | exact Old.refl _ | assumption | refine Old.drew ?_ | refine Old.drewN ?_ _ | refine Old.alloc ?_ _)) (fun hHeld => ?_)
    clear hK K
    try simp only [Act.put, List.setIfInBounds_toArray, List.set_cons_zero, List.set_cons_succ]
    refine wpAnyH_ready (rs := [14]) (by kernel_rfl) (by simp) ?_
    refine consL rfl (fun K hK => ?_) AllReadyH.nil
    go_simp
    refine hK.out _ _ (by repeat (first | exact hHeld | exact Old.refl _ | assumption | refine Old.drew ?_ | refine Old.drewN ?_ _ | refine Old.alloc ?_ _)) (fun hHeld => ?_)
    clear hK K
    try simp only [Act.put, List.setIfInBounds_toArray, List.set_cons_zero, List.set_cons_succ]
    refine wpAnyH_ready (rs := [15]) (by kernel_rfl) (by simp) ?_
    refine consL rfl (fun K hK => ?_) AllReadyH.nil
    go_simp
    have hown : Own (wd.alloc (.cells #[.int .u8 1, .int .u8 (t : Int)] 5)) wd.heap.size (.slice (some ⟨wd.heap.size, 0, none⟩) 2 2) [1, UInt8.ofNat t] := own_lit (by simp only [List.map, B, H.out.2.2.2.2.2.2.2.2]; rfl) rfl (by simp)
    have hbp := two_newD wd (.cells #[.int .u8 1, .int .u8 (t : Int)] 5) 22 #[.slice (some ⟨wd.heap.size, 0, none⟩) 2 2, .slice A1 16 c1, .slice A2 32 c2]
    have hO2 : Old w ((wd.alloc (.cells #[.int .u8 1, .int .u8 (t : Int)] 5)).alloc (.cells #[.slice (some ⟨wd.heap.size, 0, none⟩) 2 2, .slice A1 16 c1, .slice A2 32 c2] 22)) := (hOd.alloc _).alloc _
    refine (join_any _ 3 3 [[1, UInt8.ofNat t], salt, hash] _ (rd_three hbp (hown.rd.below ((Old.refl _).alloc _)) (H.out.2.1.below hO2) (H.out.2.2.1.below hO2)) (by simp [H.out.2.2.2.2.2.2.1, H.out.2.2.2.2.2.2.2.1])).mono ?_
    rintro e w9 ⟨v9, rfl, hO9, hb9⟩
    have hH9 := Old.trans hO2 hb9
    have hfl : ([[1, UInt8.ofNat t], salt, hash] : List (List UInt8)).flatten = L := by rw [← HL.out]; simp
    rw [hfl] at hO9
    obtain ⟨A9, c9, rfl, _⟩ := hO9.shape
    clear hown hbp hO2 hb9 hfl
    refine hK.out _ _ hH9 (fun hHeld => ?_)
    clear hK K
    try simp only [Act.put, List.setIfInBounds_toArray, List.set_cons_zero, List.set_cons_succ]
    refine takeL (i := 16) (v := ?_) rfl (by kernel_rfl) (by kernel_rfl) (by kernel_rfl) (fun _ _ _ h => h) (Or.inl ⟨by rfl, ?_⟩) hHeld ?_
    rotate_left
    focus (intro wq hSw; clear hSw; go_simp; try with_reducible rfl)
    try simp only [Act.put, List.setIfInBounds_toArray, List.set_cons_zero, List.set_cons_succ]
    refine wpAnyH_done (by kernel_rfl) ?_ _
    refine NoPanic.normal ?_
    try simp only [Exit.then]
    have H9 := Lib.hid (And.intro hO9.rd hH9)
    clear hO9 hH9 hHeld hOd
    go_wp2_with fail
    go_ret
    exact ⟨_, _, _, rfl, H9.out.1, H9.out.2⟩
end Go.Proofs.YtdgjjmaiibafhaaDoor
