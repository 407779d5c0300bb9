/-
  pins: the law PinCode, walked.
-/
import Derived.Test.YtdgjjmaiibafhaaDoorPin6
namespace Go.Proofs.YtdgjjmaiibafhaaDoor
set_option maxRecDepth 100000
open Go.RowKit

theorem dec_back {b : List UInt8} {s : PS} (h : PS.dec b = some s) : s.enc = b ∧ s.Ok ∧ s.set = decide (b.length = 50) := by
  unfold PS.dec at h
  split at h
  · rename_i hb
    injection h with h
    subst h
    subst hb
    exact ⟨rfl, PS.ok_none, rfl⟩
  · split at h
    · rename_i hb
      injection h with h
      subst h
      obtain ⟨hl, h0, h1⟩ := hb
      match b, hl with
      | x0 :: x1 :: l, hl =>
        simp at h0 h1 hl
        subst h0
        refine ⟨?_, ⟨h1, fun _ => by simp; omega, fun _ => by simp; omega⟩, by simp; omega⟩
        unfold PS.enc
        rw [if_neg (by simp)]
        show [1, UInt8.ofNat x1.toNat] ++ (l.take 16) ++ (l.drop 16) = _
        rw [List.append_assoc, List.take_append_drop]
        simp
    · cases h
set_option maxHeartbeats 2000000 in
theorem pinCode_any (A : Option Addr) (m c : Nat) (b : List UInt8) (w : World) (hK : KAt w) (hr : Rd w A m c b) :
    Calls Tryd.prog 3 #[.slice A m c] w fun e w' => e = .returned (.bool true) ∧ Below w.heap.size w w' := by
  have HW := Lib.hid (And.intro hK hr)
  have hsh := fun (w1 : World) (h : Rd w1 A m c b) => short_any A m c 60 b w1 h (by omega)
  rw [show ((60 : Nat) : Int) = 60 from rfl] at hsh
  obtain ⟨m2, hm2⟩ : ∃ m2, min m 60 = m2 := ⟨_, rfl⟩
  obtain ⟨bt, hbt⟩ : ∃ bt, b.take 60 = bt := ⟨_, rfl⟩
  have HBT := Lib.hid (show ∀ w1, Rd w1 A m c b → Rd w1 A m2 c bt from fun w1 h => by rw [← hm2, ← hbt]; exact h.short)
  rw [hm2] at hsh
  have hm60 : m2 ≤ 60 := by omega
  have hr2 := HBT.out w hr
  have hm := hr2.1
  have k1 := nePin
  have k1' := nePin'
  clear hK hr hm2 hbt
  by_cases hm1 : m2 = 1
  · subst hm1
    obtain ⟨x, rfl⟩ : ∃ x, bt = [x] := by
      match bt, hm with
      | [x], _ => exact ⟨x, rfl⟩
    obtain ⟨g, off, rfl, hat⟩ := hr2.addr (by omega)
    have c0 := hat.2 0 x rfl
    unfold B at c0
    rw [Nat.add_zero] at c0
    by_cases hx : x = 0
    · subst hx
      have c0' : w.cell? ⟨g, off, none⟩ = some (.int .u8 0) := c0
      have hdec : PS.dec [0] = some PS.none := by unfold PS.dec; rw [if_pos rfl]
      have HP := Lib.hid (dec_back hdec)
      have HC := Lib.hid c0'
      obtain ⟨bt, hbt⟩ : ∃ bt : List UInt8, [0] = bt := ⟨_, rfl⟩
      rw [hbt] at hdec HP HBT
      have HR := Lib.hid hdec
      clear c0 c0' hat hr2 hdec hm hm60 hbt
      go_enter Tryd.func3, Tryd.ntmps3
      go_wp2_with fail
      refine (begun21_any w HW.out.1).mono ?_
      rintro e w1 ⟨rfl, hO1⟩
      have H1 := Lib.hid (And.intro hO1 (HW.out.2.below hO1))
      clear hO1
      go_wp2_with fail
      refine (hsh w1 H1.out.2).mono ?_
      rintro e w' ⟨rfl, rfl⟩
      have hdc := dec_any (some ⟨g, off, none⟩) 1 c bt w1 (HBT.out w1 H1.out.2) (by omega)
      rw [HR.out] at hdc
      go_wp2_with fail
      refine hdc.mono ?_
      rintro e w2 ⟨p, rfl, hp2, hpw, hO2⟩
      have hO12 := Old.trans H1.out.1 hO2
      have c0 := cellOld hO12 HC.out
      have hb2 : Rd w2 (some ⟨g, off, none⟩) 1 c bt := HBT.out w2 (HW.out.2.below hO12)
      have hen := enc_any p _ w2 hp2 HP.out.2.1
      rw [HP.out.1] at hen
      have H2 := Lib.hid (And.intro hO12 (And.intro hp2 hb2))
      clear hdc hO2 hO12 hp2 hpw hb2
      go_wp2_with fail
      refine region_old (by kernel_rfl) (fun wd hHeld hSz => ?_)
      have HSz := Lib.hid hSz
      clear hSz
      refine takeL (i := 0) (v := ?_) rfl (by kernel_rfl) (by kernel_rfl) (by kernel_rfl) (fun _ _ _ h => h) (Or.inl ⟨by rfl, ?_⟩) hHeld ?_
      rotate_left
      focus (intro wq hSw; clear hSw; go_simp; try with_reducible rfl)
      try simp only [Act.put, List.setIfInBounds_toArray, List.set_cons_zero, List.set_cons_succ]
      refine takeL (i := 1) (v := ?_) rfl (by kernel_rfl) (by kernel_rfl) (by kernel_rfl) (fun _ _ _ h => h) (Or.inl ⟨by rfl, ?_⟩) hHeld ?_
      rotate_left
      focus (intro wq hSw; clear hSw; go_simp; try with_reducible rfl)
      try simp only [Act.put, List.setIfInBounds_toArray, List.set_cons_zero, List.set_cons_succ]
      refine takeL (i := 2) (v := ?_) rfl (by kernel_rfl) (by kernel_rfl) (by kernel_rfl) (fun _ _ _ h => h) (Or.inl ⟨by rfl, ?_⟩) hHeld ?_
      rotate_left
      focus (intro wq hSw; clear hSw; go_simp; try with_reducible rfl)
      try simp only [Act.put, List.setIfInBounds_toArray, List.set_cons_zero, List.set_cons_succ]
      refine takeL (i := 3) (v := ?_) rfl (by kernel_rfl) (by kernel_rfl) (by kernel_rfl) (fun _ _ _ h => h) (Or.inl ⟨by rfl, ?_⟩) hHeld ?_
      rotate_left
      focus (intro wq hSw; clear hSw; go_simp; try with_reducible rfl)
      try simp only [Act.put, List.setIfInBounds_toArray, List.set_cons_zero, List.set_cons_succ]
      refine takeL (i := 4) (v := ?_) rfl (by kernel_rfl) (by kernel_rfl) (by kernel_rfl) (fun _ _ _ h => h) (Or.inl ⟨by rfl, ?_⟩) hHeld ?_
      rotate_left
      focus (intro wq hSw; clear hSw; go_simp; try with_reducible rfl)
      try simp only [Act.put, List.setIfInBounds_toArray, List.set_cons_zero, List.set_cons_succ]
      refine takeL (i := 5) (v := ?_) rfl (by kernel_rfl) (by kernel_rfl) (by kernel_rfl) (fun _ _ _ h => h) (Or.inl ⟨by rfl, ?_⟩) hHeld ?_
      rotate_left
      focus (intro wq hSw; clear hSw; go_simp; try with_reducible rfl)
      try simp only [Act.put, List.setIfInBounds_toArray, List.set_cons_zero, List.set_cons_succ]
      refine takeL (i := 6) (v := ?_) rfl (by kernel_rfl) (by kernel_rfl) (by kernel_rfl) (fun _ _ _ h => h) (Or.inl ⟨by rfl, ?_⟩) hHeld ?_
      rotate_left
      focus (intro wq hSw; have k := nePin'; clear hSw; go_simp; try with_reducible rfl)
      try simp only [Act.put, List.setIfInBounds_toArray, List.set_cons_zero, List.set_cons_succ]
      refine takeL (i := 7) (v := ?_) rfl (by kernel_rfl) (by kernel_rfl) (by kernel_rfl) (fun _ _ _ h => h) (Or.inl ⟨by rfl, ?_⟩) hHeld ?_
      rotate_left
      focus (intro wq hSw; clear hSw; go_simp; try with_reducible rfl)
      try simp only [Act.put, List.setIfInBounds_toArray, List.set_cons_zero, List.set_cons_succ]
      refine takeL (i := 8) (v := ?_) rfl (by kernel_rfl) (by kernel_rfl) (by kernel_rfl) (fun _ _ _ h => h) (Or.inl ⟨by rfl, ?_⟩) hHeld ?_
      rotate_left
      focus (intro wq hSw; clear hSw; go_simp; try with_reducible rfl)
      try simp only [Act.put, List.setIfInBounds_toArray, List.set_cons_zero, List.set_cons_succ]
      refine takeL (i := 9) (v := ?_) rfl (by kernel_rfl) (by kernel_rfl) (by kernel_rfl) (fun _ _ _ h => h) (Or.inl ⟨by rfl, ?_⟩) hHeld ?_
      rotate_left
      focus (intro wq hSw; clear hSw; go_simp; try with_reducible rfl)
      try simp only [Act.put, List.setIfInBounds_toArray, List.set_cons_zero, List.set_cons_succ]
      refine takeL (i := 12) (v := ?_) rfl (by kernel_rfl) (by kernel_rfl) (by kernel_rfl) (fun _ _ _ h => h) (Or.inl ⟨by rfl, ?_⟩) hHeld ?_
      rotate_left
      focus (intro wq hSw; clear hSw; go_simp; try with_reducible rfl)
      try simp only [Act.put, List.setIfInBounds_toArray, List.set_cons_zero, List.set_cons_succ]
      refine takeL (i := 13) (v := ?_) rfl (by kernel_rfl) (by kernel_rfl) (by kernel_rfl) (fun _ _ _ h => h) (Or.inl ⟨by rfl, ?_⟩) hHeld ?_
      rotate_left
      focus (intro wq hSw; have hRun := (H2.out.2.2.below hSw).str; clear hSw; go_simp; try with_reducible rfl)
      try simp only [Act.put, List.setIfInBounds_toArray, List.set_cons_zero, List.set_cons_succ]
      refine wpAnyH_ready (rs := [10]) (by kernel_rfl) (by simp) ?_
      refine consL rfl (fun K hK => ?_) AllReadyH.nil
      go_simp
      refine (enc_any p PS.none wd (H2.out.2.1.below hHeld) HP.out.2.1).mono ?_
      rw [HP.out.1]
      rintro e w3 ⟨A3, n3, c3, rfl, hE3, hO3⟩
      have hH3 := Old.trans hHeld hO3
      refine hK.out _ _ hH3 (fun hHeld => ?_)
      clear hK K
      try simp only [Act.put, List.setIfInBounds_toArray, List.set_cons_zero, List.set_cons_succ]
      refine wpAnyH_old (w1 := w3) hH3 (fun hHeld => ?_) (Old.refl _)
      refine takeL (i := 11) (v := ?_) rfl (by kernel_rfl) (by kernel_rfl) (by kernel_rfl) (fun _ _ _ h => h) (Or.inl ⟨by rfl, ?_⟩) hHeld ?_
      rotate_left
      focus (intro wq hSw; have hRun := hE3.rd.str_below hSw; clear hSw; go_simp; try with_reducible rfl)
      try simp only [Act.put, List.setIfInBounds_toArray, List.set_cons_zero, List.set_cons_succ]
      refine takeL (i := 14) (v := ?_) rfl (by kernel_rfl) (by kernel_rfl) (by kernel_rfl) (fun _ _ _ h => h) (Or.inl ⟨by rfl, ?_⟩) hHeld ?_
      rotate_left
      focus (intro wq hSw; clear hSw; go_simp; try with_reducible rfl)
      try simp only [Act.put, List.setIfInBounds_toArray, List.set_cons_zero, List.set_cons_succ]
      refine takeL (i := 15) (v := ?_) rfl (by kernel_rfl) (by kernel_rfl) (by kernel_rfl) (fun _ _ _ h => h) (Or.inl ⟨by rfl, ?_⟩) hHeld ?_
      rotate_left
      focus (intro wq hSw; clear hSw; go_simp; try with_reducible rfl)
      try simp only [Act.put, List.setIfInBounds_toArray, List.set_cons_zero, List.set_cons_succ]
      refine takeL (i := 16) (v := ?_) rfl (by kernel_rfl) (by kernel_rfl) (by kernel_rfl) (fun _ _ _ h => h) (Or.inl ⟨by rfl, ?_⟩) hHeld ?_
      rotate_left
      focus (intro wq hSw; clear hSw; go_simp; try with_reducible rfl)
      try simp only [Act.put, List.setIfInBounds_toArray, List.set_cons_zero, List.set_cons_succ]
      refine takeL (i := 17) (v := ?_) rfl (by kernel_rfl) (by kernel_rfl) (by kernel_rfl) (fun _ _ _ h => h) (Or.inl ⟨by rfl, ?_⟩) hHeld ?_
      rotate_left
      focus (intro wq hSw; clear hSw; go_simp; try with_reducible rfl)
      try simp only [Act.put, List.setIfInBounds_toArray, List.set_cons_zero, List.set_cons_succ]
      refine takeL (i := 19) (v := ?_) rfl (by kernel_rfl) (by kernel_rfl) (by kernel_rfl) (fun _ _ _ h => h) (Or.inl ⟨by rfl, ?_⟩) hHeld ?_
      rotate_left
      focus (intro wq hSw; clear hSw; go_simp; try with_reducible rfl)
      try simp only [Act.put, List.setIfInBounds_toArray, List.set_cons_zero, List.set_cons_succ]
      refine takeL (i := 20) (v := ?_) rfl (by kernel_rfl) (by kernel_rfl) (by kernel_rfl) (fun _ _ _ h => h) (Or.inl ⟨by rfl, ?_⟩) hHeld ?_
      rotate_left
      focus (intro wq hSw; clear hSw; go_simp; try with_reducible rfl)
      try simp only [Act.put, List.setIfInBounds_toArray, List.set_cons_zero, List.set_cons_succ]
      refine takeL (i := 21) (v := ?_) rfl (by kernel_rfl) (by kernel_rfl) (by kernel_rfl) (fun _ _ _ h => h) (Or.inl ⟨by rfl, ?_⟩) hHeld ?_
      rotate_left
      focus (intro wq hSw; clear hSw; go_simp; try with_reducible rfl)
      try simp only [Act.put, List.setIfInBounds_toArray, List.set_cons_zero, List.set_cons_succ]
      refine wpAnyH_ready (rs := [18]) (by kernel_rfl) (by simp) ?_
      refine consL rfl (fun K hK => ?_) AllReadyH.nil
      go_simp
      refine (pis_any p PS.none _ (H2.out.2.1.below (Old.trans hH3 hHeld))).mono ?_
      rintro e w' ⟨rfl, rfl⟩
      refine hK.out _ _ hHeld (fun hHeld => ?_)
      clear hK K
      try simp only [Act.put, List.setIfInBounds_toArray, List.set_cons_zero, List.set_cons_succ]
      refine takeL (i := 22) (v := ?_) rfl (by kernel_rfl) (by kernel_rfl) (by kernel_rfl) (fun _ _ _ h => h) (Or.inl ⟨by rfl, ?_⟩) hHeld ?_
      rotate_left
      focus (intro wq hSw; clear hSw; go_simp; try with_reducible rfl)
      try simp only [Act.put, List.setIfInBounds_toArray, List.set_cons_zero, List.set_cons_succ]
      refine takeL (i := 23) (v := ?_) rfl (by kernel_rfl) (by kernel_rfl) (by kernel_rfl) (fun _ _ _ h => h) (Or.inl ⟨by rfl, ?_⟩) hHeld ?_
      rotate_left
      focus (intro wq hSw; clear hSw; go_simp; try with_reducible rfl)
      try simp only [Act.put, List.setIfInBounds_toArray, List.set_cons_zero, List.set_cons_succ]
      refine takeL (i := 24) (v := ?_) rfl (by kernel_rfl) (by kernel_rfl) (by kernel_rfl) (fun _ _ _ h => h) (Or.inl ⟨by rfl, ?_⟩) hHeld ?_
      rotate_left
      focus (intro wq hSw; clear hSw; go_simp; try with_reducible rfl)
      try simp only [Act.put, List.setIfInBounds_toArray, List.set_cons_zero, List.set_cons_succ]
      refine wpAnyH_done (by kernel_rfl) ?_ _
      refine NoPanic.normal ?_
      have hW9 := Old.trans hH3 hHeld
      clear hH3 hO3 hE3
      try simp only [Exit.then]
      have H9 := Lib.hid (Old.trans H2.out.1 hW9)
      clear hHeld hW9
      go_wp2_with fail
      go_ret
      exact ⟨rfl, H9.out⟩
    · have hx0 : ¬ ((x.toNat : Nat) : Int) = 0 := fun e => hx (by
        have : x.toNat = 0 := by omega
        exact UInt8.toNat_inj.1 this)
      have hdec := dec_no (b := [x]) (fun e => hx (by injection e)) (fun h => by have := h.1; simp at this)
      obtain ⟨n0, hn0⟩ : ∃ n0, x.toNat = n0 := ⟨_, rfl⟩
      rw [hn0] at c0 hx0
      have hxb : ((n0 : Int) == 0) = false := by rw [beq_eq_false_iff_ne]; exact hx0
      have HC := Lib.hid c0
      obtain ⟨bt, hbt⟩ : ∃ bt : List UInt8, [x] = bt := ⟨_, rfl⟩
      rw [hbt] at hdec HBT
      have HR := Lib.hid hdec
      clear c0 hat hr2 hdec hm hm60 hbt hn0 hx
      go_enter Tryd.func3, Tryd.ntmps3
      go_wp2_with fail
      refine (begun21_any w HW.out.1).mono ?_
      rintro e w1 ⟨rfl, hO1⟩
      have H1 := Lib.hid (And.intro hO1 (HW.out.2.below hO1))
      clear hO1
      go_wp2_with fail
      refine (hsh w1 H1.out.2).mono ?_
      rintro e w' ⟨rfl, rfl⟩
      have hdc := dec_any (some ⟨g, off, none⟩) 1 c bt w1 (HBT.out w1 H1.out.2) (by omega)
      rw [HR.out] at hdc
      go_wp2_with fail
      refine hdc.mono ?_
      rintro e w2 ⟨rfl, hO2⟩
      have hO12 := Old.trans H1.out.1 hO2
      have c0 := cellOld hO12 HC.out
      have H2 := Lib.hid hO12
      clear hdc hO2 hO12
      go_wp2_with fail
      go_ret
      exact ⟨rfl, H2.out⟩
  · have t1 : ¬ (m2 : Int) = 1 := by omega
    by_cases hm50 : m2 = 50
    · subst hm50
      obtain ⟨g, off, rfl, hat⟩ := hr2.addr (by omega)
      obtain ⟨x0, x1, l, rfl⟩ : ∃ x0 x1 l, bt = x0 :: x1 :: l := by
        match bt, hm with
        | x0 :: x1 :: l, _ => exact ⟨x0, x1, l, rfl⟩
      have c0 := hat.2 0 x0 rfl
      have c1 := hat.2 1 x1 rfl
      unfold B at c0 c1
      rw [Nat.add_zero] at c0
      obtain ⟨n0, hn0⟩ : ∃ n0, x0.toNat = n0 := ⟨_, rfl⟩
      obtain ⟨n1, hn1⟩ : ∃ n1, x1.toNat = n1 := ⟨_, rfl⟩
      rw [hn0] at c0
      rw [hn1] at c1
      have hlen : (x0 :: x1 :: l).length = 50 := hm.symm
      by_cases hx0 : n0 = 1
      · by_cases hx1 : n1 ≤ 3
        · have hx01 : x0 = 1 := UInt8.toNat_inj.1 (by rw [hn0, hx0]; rfl)
          subst hx0
          have t3 : (n1 : Int) ≤ 3 := by omega
          have t3d : decide ((n1 : Int) ≤ 3) = true := decide_eq_true t3
          obtain ⟨s, hdec⟩ : ∃ s, PS.dec (x0 :: x1 :: l) = some s := by
            unfold PS.dec
            rw [if_neg (by simp), if_pos ⟨hlen, by rw [hx01]; rfl, by show x1.toNat ≤ 3; omega⟩]
            exact ⟨_, rfl⟩
          have HP := Lib.hid (dec_back hdec)
          have HC := Lib.hid (And.intro c0 c1)
          have hset : s.set = true := by rw [HP.out.2.2]; exact decide_eq_true hlen
          obtain ⟨bt, hbt⟩ : ∃ bt : List UInt8, x0 :: x1 :: l = bt := ⟨_, rfl⟩
          rw [hbt] at hdec HP HBT
          have HR := Lib.hid hdec
          clear c0 c1 hat hr2 hdec hm hm60 hbt hn0 hn1 hx1 hx01 hlen hm1
          go_enter Tryd.func3, Tryd.ntmps3
          go_wp2_with fail
          refine (begun21_any w HW.out.1).mono ?_
          rintro e w1 ⟨rfl, hO1⟩
          have H1 := Lib.hid (And.intro hO1 (HW.out.2.below hO1))
          clear hO1
          go_wp2_with fail
          refine (hsh w1 H1.out.2).mono ?_
          rintro e w' ⟨rfl, rfl⟩
          have hdc := dec_any (some ⟨g, off, none⟩) 50 c bt w1 (HBT.out w1 H1.out.2) (by omega)
          rw [HR.out] at hdc
          go_wp2_with fail
          refine hdc.mono ?_
          rintro e w2 ⟨p, rfl, hp2, hpw, hO2⟩
          have hO12 := Old.trans H1.out.1 hO2
          have c0 := cellOld hO12 HC.out.1
          have c1 := cellOld hO12 HC.out.2
          have hb2 : Rd w2 (some ⟨g, off, none⟩) 50 c bt := HBT.out w2 (HW.out.2.below hO12)
          have hen := enc_any p _ w2 hp2 HP.out.2.1
          rw [HP.out.1] at hen
          have H2 := Lib.hid (And.intro hO12 (And.intro hp2 hb2))
          clear hdc hO2 hO12 hp2 hpw hb2
          go_wp2_with fail
          refine region_old (by kernel_rfl) (fun wd hHeld hSz => ?_)
          have HSz := Lib.hid hSz
          clear hSz
          refine takeL (i := 0) (v := ?_) rfl (by kernel_rfl) (by kernel_rfl) (by kernel_rfl) (fun _ _ _ h => h) (Or.inl ⟨by rfl, ?_⟩) hHeld ?_
          rotate_left
          focus (intro wq hSw; clear hSw; go_simp; try with_reducible rfl)
          try simp only [Act.put, List.setIfInBounds_toArray, List.set_cons_zero, List.set_cons_succ]
          refine takeL (i := 1) (v := ?_) rfl (by kernel_rfl) (by kernel_rfl) (by kernel_rfl) (fun _ _ _ h => h) (Or.inl ⟨by rfl, ?_⟩) hHeld ?_
          rotate_left
          focus (intro wq hSw; clear hSw; go_simp; try with_reducible rfl)
          try simp only [Act.put, List.setIfInBounds_toArray, List.set_cons_zero, List.set_cons_succ]
          refine takeL (i := 2) (v := ?_) rfl (by kernel_rfl) (by kernel_rfl) (by kernel_rfl) (fun _ _ _ h => h) (Or.inl ⟨by rfl, ?_⟩) hHeld ?_
          rotate_left
          focus (intro wq hSw; clear hSw; go_simp; try with_reducible rfl)
          try simp only [Act.put, List.setIfInBounds_toArray, List.set_cons_zero, List.set_cons_succ]
          refine takeL (i := 3) (v := ?_) rfl (by kernel_rfl) (by kernel_rfl) (by kernel_rfl) (fun _ _ _ h => h) (Or.inl ⟨by rfl, ?_⟩) hHeld ?_
          rotate_left
          focus (intro wq hSw; clear hSw; go_simp; try with_reducible rfl)
          try simp only [Act.put, List.setIfInBounds_toArray, List.set_cons_zero, List.set_cons_succ]
          refine takeL (i := 4) (v := ?_) rfl (by kernel_rfl) (by kernel_rfl) (by kernel_rfl) (fun _ _ _ h => h) (Or.inl ⟨by rfl, ?_⟩) hHeld ?_
          rotate_left
          focus (intro wq hSw; clear hSw; go_simp; try with_reducible rfl)
          try simp only [Act.put, List.setIfInBounds_toArray, List.set_cons_zero, List.set_cons_succ]
          refine takeL (i := 5) (v := ?_) rfl (by kernel_rfl) (by kernel_rfl) (by kernel_rfl) (fun _ _ _ h => h) (Or.inl ⟨by rfl, ?_⟩) hHeld ?_
          rotate_left
          focus (intro wq hSw; clear hSw; go_simp; try with_reducible rfl)
          try simp only [Act.put, List.setIfInBounds_toArray, List.set_cons_zero, List.set_cons_succ]
          refine takeL (i := 6) (v := ?_) rfl (by kernel_rfl) (by kernel_rfl) (by kernel_rfl) (fun _ _ _ h => h) (Or.inl ⟨by rfl, ?_⟩) hHeld ?_
          rotate_left
          focus (intro wq hSw; have k := nePin'; clear hSw; go_simp; try with_reducible rfl)
          try simp only [Act.put, List.setIfInBounds_toArray, List.set_cons_zero, List.set_cons_succ]
          refine takeL (i := 7) (v := ?_) rfl (by kernel_rfl) (by kernel_rfl) (by kernel_rfl) (fun _ _ _ h => h) (Or.inl ⟨by rfl, ?_⟩) hHeld ?_
          rotate_left
          focus (intro wq hSw; clear hSw; go_simp; try with_reducible rfl)
          try simp only [Act.put, List.setIfInBounds_toArray, List.set_cons_zero, List.set_cons_succ]
          refine takeL (i := 8) (v := ?_) rfl (by kernel_rfl) (by kernel_rfl) (by kernel_rfl) (fun _ _ _ h => h) (Or.inl ⟨by rfl, ?_⟩) hHeld ?_
          rotate_left
          focus (intro wq hSw; clear hSw; go_simp; try with_reducible rfl)
          try simp only [Act.put, List.setIfInBounds_toArray, List.set_cons_zero, List.set_cons_succ]
          refine takeL (i := 9) (v := ?_) rfl (by kernel_rfl) (by kernel_rfl) (by kernel_rfl) (fun _ _ _ h => h) (Or.inl ⟨by rfl, ?_⟩) hHeld ?_
          rotate_left
          focus (intro wq hSw; clear hSw; go_simp; try with_reducible rfl)
          try simp only [Act.put, List.setIfInBounds_toArray, List.set_cons_zero, List.set_cons_succ]
          refine takeL (i := 12) (v := ?_) rfl (by kernel_rfl) (by kernel_rfl) (by kernel_rfl) (fun _ _ _ h => h) (Or.inl ⟨by rfl, ?_⟩) hHeld ?_
          rotate_left
          focus (intro wq hSw; clear hSw; go_simp; try with_reducible rfl)
          try simp only [Act.put, List.setIfInBounds_toArray, List.set_cons_zero, List.set_cons_succ]
          refine takeL (i := 13) (v := ?_) rfl (by kernel_rfl) (by kernel_rfl) (by kernel_rfl) (fun _ _ _ h => h) (Or.inl ⟨by rfl, ?_⟩) hHeld ?_
          rotate_left
          focus (intro wq hSw; have hRun := (H2.out.2.2.below hSw).str; clear hSw; go_simp; try with_reducible rfl)
          try simp only [Act.put, List.setIfInBounds_toArray, List.set_cons_zero, List.set_cons_succ]
          refine wpAnyH_ready (rs := [10]) (by kernel_rfl) (by simp) ?_
          refine consL rfl (fun K hK => ?_) AllReadyH.nil
          go_simp
          refine (enc_any p s wd (H2.out.2.1.below hHeld) HP.out.2.1).mono ?_
          rw [HP.out.1]
          rintro e w3 ⟨A3, n3, c3, rfl, hE3, hO3⟩
          have hH3 := Old.trans hHeld hO3
          refine hK.out _ _ hH3 (fun hHeld => ?_)
          clear hK K
          try simp only [Act.put, List.setIfInBounds_toArray, List.set_cons_zero, List.set_cons_succ]
          refine wpAnyH_old (w1 := w3) hH3 (fun hHeld => ?_) (Old.refl _)
          refine takeL (i := 11) (v := ?_) rfl (by kernel_rfl) (by kernel_rfl) (by kernel_rfl) (fun _ _ _ h => h) (Or.inl ⟨by rfl, ?_⟩) hHeld ?_
          rotate_left
          focus (intro wq hSw; have hRun := hE3.rd.str_below hSw; clear hSw; go_simp; try with_reducible rfl)
          try simp only [Act.put, List.setIfInBounds_toArray, List.set_cons_zero, List.set_cons_succ]
          refine takeL (i := 14) (v := ?_) rfl (by kernel_rfl) (by kernel_rfl) (by kernel_rfl) (fun _ _ _ h => h) (Or.inl ⟨by rfl, ?_⟩) hHeld ?_
          rotate_left
          focus (intro wq hSw; clear hSw; go_simp; try with_reducible rfl)
          try simp only [Act.put, List.setIfInBounds_toArray, List.set_cons_zero, List.set_cons_succ]
          refine takeL (i := 15) (v := ?_) rfl (by kernel_rfl) (by kernel_rfl) (by kernel_rfl) (fun _ _ _ h => h) (Or.inl ⟨by rfl, ?_⟩) hHeld ?_
          rotate_left
          focus (intro wq hSw; clear hSw; go_simp; try with_reducible rfl)
          try simp only [Act.put, List.setIfInBounds_toArray, List.set_cons_zero, List.set_cons_succ]
          refine takeL (i := 16) (v := ?_) rfl (by kernel_rfl) (by kernel_rfl) (by kernel_rfl) (fun _ _ _ h => h) (Or.inl ⟨by rfl, ?_⟩) hHeld ?_
          rotate_left
          focus (intro wq hSw; clear hSw; go_simp; try with_reducible rfl)
          try simp only [Act.put, List.setIfInBounds_toArray, List.set_cons_zero, List.set_cons_succ]
          refine takeL (i := 17) (v := ?_) rfl (by kernel_rfl) (by kernel_rfl) (by kernel_rfl) (fun _ _ _ h => h) (Or.inl ⟨by rfl, ?_⟩) hHeld ?_
          rotate_left
          focus (intro wq hSw; clear hSw; go_simp; try with_reducible rfl)
          try simp only [Act.put, List.setIfInBounds_toArray, List.set_cons_zero, List.set_cons_succ]
          refine takeL (i := 19) (v := ?_) rfl (by kernel_rfl) (by kernel_rfl) (by kernel_rfl) (fun _ _ _ h => h) (Or.inl ⟨by rfl, ?_⟩) hHeld ?_
          rotate_left
          focus (intro wq hSw; clear hSw; go_simp; try with_reducible rfl)
          try simp only [Act.put, List.setIfInBounds_toArray, List.set_cons_zero, List.set_cons_succ]
          refine takeL (i := 20) (v := ?_) rfl (by kernel_rfl) (by kernel_rfl) (by kernel_rfl) (fun _ _ _ h => h) (Or.inl ⟨by rfl, ?_⟩) hHeld ?_
          rotate_left
          focus (intro wq hSw; clear hSw; go_simp; try with_reducible rfl)
          try simp only [Act.put, List.setIfInBounds_toArray, List.set_cons_zero, List.set_cons_succ]
          refine takeL (i := 21) (v := ?_) rfl (by kernel_rfl) (by kernel_rfl) (by kernel_rfl) (fun _ _ _ h => h) (Or.inl ⟨by rfl, ?_⟩) hHeld ?_
          rotate_left
          focus (intro wq hSw; clear hSw; go_simp; try with_reducible rfl)
          try simp only [Act.put, List.setIfInBounds_toArray, List.set_cons_zero, List.set_cons_succ]
          refine wpAnyH_ready (rs := [18]) (by kernel_rfl) (by simp) ?_
          refine consL rfl (fun K hK => ?_) AllReadyH.nil
          go_simp
          refine (pis_any p s _ (H2.out.2.1.below (Old.trans hH3 hHeld))).mono ?_
          rintro e w' ⟨rfl, rfl⟩
          refine hK.out _ _ hHeld (fun hHeld => ?_)
          clear hK K
          try simp only [Act.put, List.setIfInBounds_toArray, List.set_cons_zero, List.set_cons_succ]
          refine takeL (i := 22) (v := ?_) rfl (by kernel_rfl) (by kernel_rfl) (by kernel_rfl) (fun _ _ _ h => h) (Or.inl ⟨by rfl, ?_⟩) hHeld ?_
          rotate_left
          focus (intro wq hSw; clear hSw; go_simp; try with_reducible rfl)
          try simp only [Act.put, List.setIfInBounds_toArray, List.set_cons_zero, List.set_cons_succ]
          refine takeL (i := 23) (v := ?_) rfl (by kernel_rfl) (by kernel_rfl) (by kernel_rfl) (fun _ _ _ h => h) (Or.inl ⟨by rfl, ?_⟩) hHeld ?_
          rotate_left
          focus (intro wq hSw; clear hSw; go_simp; try with_reducible rfl)
          try simp only [Act.put, List.setIfInBounds_toArray, List.set_cons_zero, List.set_cons_succ]
          refine takeL (i := 24) (v := ?_) rfl (by kernel_rfl) (by kernel_rfl) (by kernel_rfl) (fun _ _ _ h => h) (Or.inl ⟨by rfl, ?_⟩) hHeld ?_
          rotate_left
          focus (intro wq hSw; clear hSw; go_simp; try with_reducible rfl)
          try simp only [Act.put, List.setIfInBounds_toArray, List.set_cons_zero, List.set_cons_succ]
          refine wpAnyH_done (by kernel_rfl) ?_ _
          refine NoPanic.normal ?_
          have hW9 := Old.trans hH3 hHeld
          clear hH3 hO3 hE3
          try simp only [Exit.then]
          have H9 := Lib.hid (Old.trans H2.out.1 hW9)
          clear hHeld hW9
          go_wp2_with fail
          go_ret
          exact ⟨rfl, H9.out⟩
        · have hdec := dec_no (b := x0 :: x1 :: l) (by simp) (fun h => hx1 (by have := h.2.2; simp at this; omega))
          have t3 : ¬ (n1 : Int) ≤ 3 := by omega
          have t3d : decide ((n1 : Int) ≤ 3) = false := decide_eq_false t3
          subst hx0
          have HC := Lib.hid (And.intro c0 c1)
          obtain ⟨bt, hbt⟩ : ∃ bt : List UInt8, x0 :: x1 :: l = bt := ⟨_, rfl⟩
          rw [hbt] at hdec HBT
          have HR := Lib.hid hdec
          clear c0 c1 hat hr2 hdec hm hm60 hbt hn0 hn1 hx1 hlen hm1
          go_enter Tryd.func3, Tryd.ntmps3
          go_wp2_with fail
          refine (begun21_any w HW.out.1).mono ?_
          rintro e w1 ⟨rfl, hO1⟩
          have H1 := Lib.hid (And.intro hO1 (HW.out.2.below hO1))
          clear hO1
          go_wp2_with fail
          refine (hsh w1 H1.out.2).mono ?_
          rintro e w' ⟨rfl, rfl⟩
          have hdc := dec_any (some ⟨g, off, none⟩) 50 c bt w1 (HBT.out w1 H1.out.2) (by omega)
          rw [HR.out] at hdc
          go_wp2_with fail
          refine hdc.mono ?_
          rintro e w2 ⟨rfl, hO2⟩
          have hO12 := Old.trans H1.out.1 hO2
          have c0 := cellOld hO12 HC.out.1
          have c1 := cellOld hO12 HC.out.2
          have H2 := Lib.hid hO12
          clear hdc hO2 hO12
          go_wp2_with fail
          go_ret
          exact ⟨rfl, H2.out⟩
      · have hdec := dec_no (b := x0 :: x1 :: l) (by simp) (fun h => hx0 (by have h9 := h.2.1; simp at h9; rw [h9] at hn0; exact hn0.symm))
        have t2 : ¬ (n0 : Int) = 1 := by omega
        have HC := Lib.hid (And.intro c0 c1)
        obtain ⟨bt, hbt⟩ : ∃ bt : List UInt8, x0 :: x1 :: l = bt := ⟨_, rfl⟩
        rw [hbt] at hdec HBT
        have HR := Lib.hid hdec
        clear c0 c1 hat hr2 hdec hm hm60 hbt hn0 hn1 hx0 hlen hm1
        go_enter Tryd.func3, Tryd.ntmps3
        go_wp2_with fail
        refine (begun21_any w HW.out.1).mono ?_
        rintro e w1 ⟨rfl, hO1⟩
        have H1 := Lib.hid (And.intro hO1 (HW.out.2.below hO1))
        clear hO1
        go_wp2_with fail
        refine (hsh w1 H1.out.2).mono ?_
        rintro e w' ⟨rfl, rfl⟩
        have hdc := dec_any (some ⟨g, off, none⟩) 50 c bt w1 (HBT.out w1 H1.out.2) (by omega)
        rw [HR.out] at hdc
        go_wp2_with fail
        refine hdc.mono ?_
        rintro e w2 ⟨rfl, hO2⟩
        have hO12 := Old.trans H1.out.1 hO2
        have c0 := cellOld hO12 HC.out.1
        have c1 := cellOld hO12 HC.out.2
        have H2 := Lib.hid hO12
        clear hdc hO2 hO12
        go_wp2_with fail
        go_ret
        exact ⟨rfl, H2.out⟩
    · have t2 : ¬ (m2 : Int) = 50 := by omega
      have hdec := dec_no (b := bt) (fun e => hm1 (by rw [hm, e]; rfl)) (fun h => hm50 (hm.trans h.1))
      have HR := Lib.hid hdec
      clear hr2 hdec hm hm1 hm50
      go_enter Tryd.func3, Tryd.ntmps3
      go_wp2_with fail
      refine (begun21_any w HW.out.1).mono ?_
      rintro e w1 ⟨rfl, hO1⟩
      have H1 := Lib.hid (And.intro hO1 (HW.out.2.below hO1))
      clear hO1
      go_wp2_with fail
      refine (hsh w1 H1.out.2).mono ?_
      rintro e w' ⟨rfl, rfl⟩
      have hdc := dec_any A m2 c bt w1 (HBT.out w1 H1.out.2) (by omega)
      rw [HR.out] at hdc
      go_wp2_with fail
      refine hdc.mono ?_
      rintro e w2 ⟨rfl, hO2⟩
      have hO12 := Old.trans H1.out.1 hO2
      have H2 := Lib.hid hO12
      clear hdc hO2 hO12
      go_wp2_with fail
      go_ret
      exact ⟨rfl, H2.out⟩
end Go.Proofs.YtdgjjmaiibafhaaDoor
