/-
  Modes: the end of a stream of blocks: stripped, padded, end.
-/
import Derived.Test.YtiocmebcbhbcmaaZzEqB
import Derived.Test.YtiocmebcbhbcmaaZzEqB
import Derived.Test.YtiocmebcbhbcmaaAesBx
namespace Go.Proofs.Ytiocmebcbhbcmaa
set_option maxRecDepth 100000
open Go.RowKit

/-- A block without its padding. -/
def stripF (o : List UInt8) : List UInt8 × Int :=
  if 1 ≤ (o.getD 15 0).toNat ∧ (o.getD 15 0).toNat ≤ 16 ∧ o.drop (16 - (o.getD 15 0).toNat) = List.replicate (o.getD 15 0).toNat (UInt8.ofNat (o.getD 15 0).toNat) then (o.take (16 - (o.getD 15 0).toNat), 0) else ([], 64)
/-- What the end of a stream of blocks gives. -/
def endB (mode : Nat) (enc : Bool) (E D : List UInt8 → List UInt8) (last wait : List UInt8) : List UInt8 × Int :=
  if mode = 3 then
    if enc then ((blkF mode enc E D last (wait ++ List.replicate (16 - wait.length) (UInt8.ofNat (16 - wait.length)))).1, 0)
    else if wait.length = 16 then stripF (blkF mode enc E D last wait).1 else ([], 65)
  else if wait = [] then ([], 0) else if enc then ([], 33) else ([], 65)
theorem padded_any (x : BX) (W : Option Addr) (m cw : Nat) (L : Option Addr) (nl cl : Nat) (last : List UInt8) (w : World) (h : BkC w x W m cw L nl cl last) :
    Calls Try.prog 42 #[.pointer (some ⟨x.d, 0, none⟩)] w fun e w' => e = .returned (.bool (decide (x.mode = 3) && !x.enc)) ∧ w = w' := by
  have y0 := h.c0
  have y1 := h.c1
  clear h
  by_cases hm : x.mode = 3
  · rw [hm] at y0
    rw [hm]
    cases he : x.enc with
    | true =>
      rw [he] at y1
      clear hm he
      go_enter Try.func42, Try.ntmps42
      go_wp2_with fail
      go_ret
      exact ⟨rfl, rfl⟩
    | false =>
      rw [he] at y1
      clear hm he
      go_enter Try.func42, Try.ntmps42
      go_wp2_with fail
      go_ret
      exact ⟨rfl, rfl⟩
  · have hmd : ((x.mode : Int) == 3) = false := by simp; omega
    have hmi : ¬ (x.mode : Int) = 3 := by omega
    have hf : decide (x.mode = 3) = false := decide_eq_false hm
    rw [hf, Bool.false_and]
    clear hm hf
    go_enter Try.func42, Try.ntmps42
    go_wp2_with fail
    go_ret
    exact ⟨rfl, rfl⟩
/-- What is left behind the end of a stream of blocks. -/
def EndB (w : World) (x : BX) (W : Option Addr) (r : List UInt8 × Int) (e : Ending) (w' : World) : Prop :=
  ∃ A n c, e = .returned (.tuple #[.slice A n c, .int .i64 r.2]) ∧ Rd w' A n c r.1 ∧ (∃ W1 m1 cw1 L1 nl1 cl1 last1, BkC w' x W1 m1 cw1 L1 nl1 cl1 last1) ∧ Turn (x.d :: (W.map Addr.block).toList) w w' ∧ n ≤ 16
theorem EndB.nil {w : World} {x : BX} {W : Option Addr} {m cw : Nat} {L : Option Addr} {nl cl : Nat} {last : List UInt8} (h : BkC w x W m cw L nl cl last) (rv : Int) : EndB w x W ([], rv) (.returned (.tuple #[.slice none 0 0, .int .i64 rv])) w :=
  ⟨none, 0, 0, rfl, Rd.nil w, ⟨_, _, _, _, _, _, _, h⟩, Turn.refl _ _, by omega⟩
set_option maxHeartbeats 2000000 in
theorem stripped_any (x : BX) (W : Option Addr) (m cw : Nat) (wait : List UInt8) (L : Option Addr) (nl cl : Nat) (last : List UInt8) (w : World) (h : BkW w x W m cw wait L nl cl last) (hm3 : x.mode = 3) (he : x.enc = false) :
    Calls Try.prog 71 #[.pointer (some ⟨x.d, 0, none⟩)] w (EndB w x W (endB x.mode x.enc x.E x.D last wait)) := by
  have y4 := h.bkc.c4
  have hml := h.wait.rd.1
  by_cases hm : m = 16
  · subst hm
    have hcall := block_any x W 16 cw L nl cl last W cw wait w h.bkc h.wait.rd
    have hres : endB x.mode x.enc x.E x.D last wait = stripF (blkF x.mode x.enc x.E x.D last wait).1 := by unfold endB; rw [if_pos hm3, he, if_neg (by decide), if_pos hml.symm]
    obtain ⟨RES, hRES⟩ : ∃ r, endB x.mode x.enc x.E x.D last wait = r := ⟨_, rfl⟩
    rw [hRES] at hres ⊢
    have HH := Lib.hid (And.intro h hcall)
    have HE := Lib.hid hres
    clear h hcall hres hRES hm3 he hml
    go_enter Try.func71, Try.ntmps71
    go_wp2_with fail
    refine HH.out.2.mono ?_
    rintro e w1 ⟨A', c', rfl, hres⟩
    obtain ⟨o, ho⟩ : ∃ o, (blkF x.mode x.enc x.E x.D last wait).1 = o := ⟨_, rfl⟩
    have hout := hres.out
    rw [ho] at hout
    have hE := HE.out
    rw [ho] at hE
    obtain ⟨L', nl', cl', hC, _⟩ := hres.next
    have hT : Turn (x.d :: (W.map Addr.block).toList) w w1 := hres.turn.more (by simp)
    obtain ⟨bb, ob, rfl, hat⟩ := hout.addr (by decide)
    have hol := hout.1
    have hoc := hout.2.1
    obtain ⟨z, hz⟩ : ∃ z, o[15]? = some z := ⟨_, List.getElem?_eq_getElem (by omega)⟩
    have hzd : o.getD 15 0 = z := by rw [List.getD_eq_getElem?_getD, hz]; rfl
    have y15 := hat.2 15 z hz
    have hcv : (convert 5 3 (B z)).run Try.prog w1 = .ok (.int .i64 (z.toNat : Int)) w1 := by
      unfold B
      rw [conv_int w1 .i64 Try.underlying5 Try.underlying3, IntWalk.i64_in _ (by have := z.toNat_lt; omega)]
    have hst : stripF o = if 1 ≤ z.toNat ∧ z.toNat ≤ 16 ∧ o.drop (16 - z.toNat) = List.replicate z.toNat (UInt8.ofNat z.toNat) then (o.take (16 - z.toNat), 0) else ([], 64) := by unfold stripF; rw [hzd]
    rw [hst] at hE
    obtain ⟨n, hn⟩ : ∃ n, z.toNat = n := ⟨_, rfl⟩
    rw [hn] at hcv hE
    have HE := Lib.hid hE
    clear hE
    have hn256 : n < 256 := by have := z.toNat_lt; omega
    have HX := Lib.hid (And.intro hC (And.intro hT (And.intro hout hol)))
    have hi15 : (15 : Int) < 16 := by omega
    clear hres hC hT hout hat hz hzd hst hn ho HH hol
    by_cases h1 : n < 1
    · have h1i : (n : Int) < 1 := by omega
      have h1d : decide ((n : Int) < 1) = true := decide_eq_true h1i
      have hE := HE.out
      rw [if_neg (by omega)] at hE
      have HF := Lib.hid hE
      clear hE
      go_wp2_with fail
      refine region_old (by kernel_rfl) (fun wd hHeld hSz => ?_)
      have HSz := Lib.hid hSz
      clear hSz
      have hOd := hHeld
      refine takeL (i := 0) (v := ?_) rfl (by kernel_rfl) (by kernel_rfl) (by kernel_rfl) (fun _ _ _ h => h) (Or.inl ⟨by rfl, ?_⟩) hHeld ?_
      rotate_left
      focus (intro wq hSw; clear hSw; go_simp; try with_reducible rfl)
      try simp only [Act.put, List.setIfInBounds_toArray, List.set_cons_zero, List.set_cons_succ]
      refine takeL (i := 1) (v := ?_) rfl (by kernel_rfl) (by kernel_rfl) (by kernel_rfl) (fun _ _ _ h => h) (Or.inl ⟨by rfl, ?_⟩) hHeld ?_
      rotate_left
      focus (intro wq hSw; clear hSw; go_simp; try with_reducible rfl)
      try simp only [Act.put, List.setIfInBounds_toArray, List.set_cons_zero, List.set_cons_succ]
      refine takeL (i := 2) (v := ?_) rfl (by kernel_rfl) (by kernel_rfl) (by kernel_rfl) (fun _ _ _ h => h) (Or.inl ⟨by rfl, ?_⟩) hHeld ?_
      rotate_left
      focus (intro wq hSw; clear hSw; go_simp; try with_reducible rfl)
      try simp only [Act.put, List.setIfInBounds_toArray, List.set_cons_zero, List.set_cons_succ]
      refine takeL (i := 3) (v := undef) rfl (by kernel_rfl) (by kernel_rfl) (by kernel_rfl) (fun _ _ _ h => h) (Or.inr ⟨by rfl, rfl⟩) hHeld ?_
      try simp only [Act.put, List.setIfInBounds_toArray, List.set_cons_zero, List.set_cons_succ]
      refine takeL (i := 4) (v := undef) rfl (by kernel_rfl) (by kernel_rfl) (by kernel_rfl) (fun _ _ _ h => h) (Or.inr ⟨by rfl, rfl⟩) hHeld ?_
      try simp only [Act.put, List.setIfInBounds_toArray, List.set_cons_zero, List.set_cons_succ]
      refine takeL (i := 5) (v := ?_) rfl (by kernel_rfl) (by kernel_rfl) (by kernel_rfl) (fun _ _ _ h => h) (Or.inl ⟨by rfl, ?_⟩) hHeld ?_
      rotate_left
      focus (intro wq hSw; clear hSw; go_simp; try with_reducible rfl)
      try simp only [Act.put, List.setIfInBounds_toArray, List.set_cons_zero, List.set_cons_succ]
      refine takeL (i := 6) (v := ?_) rfl (by kernel_rfl) (by kernel_rfl) (by kernel_rfl) (fun _ _ _ h => h) (Or.inl ⟨by rfl, ?_⟩) hHeld ?_
      rotate_left
      focus (intro wq hSw; clear hSw; go_simp; try with_reducible rfl)
      try simp only [Act.put, List.setIfInBounds_toArray, List.set_cons_zero, List.set_cons_succ]
      refine takeL (i := 7) (v := undef) rfl (by kernel_rfl) (by kernel_rfl) (by kernel_rfl) (fun _ _ _ h => h) (Or.inr ⟨by rfl, rfl⟩) hHeld ?_
      try simp only [Act.put, List.setIfInBounds_toArray, List.set_cons_zero, List.set_cons_succ]
      refine takeL (i := 8) (v := undef) rfl (by kernel_rfl) (by kernel_rfl) (by kernel_rfl) (fun _ _ _ h => h) (Or.inr ⟨by rfl, rfl⟩) hHeld ?_
      try simp only [Act.put, List.setIfInBounds_toArray, List.set_cons_zero, List.set_cons_succ]
      refine takeL (i := 9) (v := undef) rfl (by kernel_rfl) (by kernel_rfl) (by kernel_rfl) (fun _ _ _ h => h) (Or.inr ⟨by rfl, rfl⟩) hHeld ?_
      try simp only [Act.put, List.setIfInBounds_toArray, List.set_cons_zero, List.set_cons_succ]
      refine takeL (i := 10) (v := undef) rfl (by kernel_rfl) (by kernel_rfl) (by kernel_rfl) (fun _ _ _ h => h) (Or.inr ⟨by rfl, rfl⟩) hHeld ?_
      try simp only [Act.put, List.setIfInBounds_toArray, List.set_cons_zero, List.set_cons_succ]
      refine takeL (i := 11) (v := undef) rfl (by kernel_rfl) (by kernel_rfl) (by kernel_rfl) (fun _ _ _ h => h) (Or.inr ⟨by rfl, rfl⟩) hHeld ?_
      try simp only [Act.put, List.setIfInBounds_toArray, List.set_cons_zero, List.set_cons_succ]
      refine takeL (i := 12) (v := undef) rfl (by kernel_rfl) (by kernel_rfl) (by kernel_rfl) (fun _ _ _ h => h) (Or.inr ⟨by rfl, rfl⟩) hHeld ?_
      try simp only [Act.put, List.setIfInBounds_toArray, List.set_cons_zero, List.set_cons_succ]
      refine takeL (i := 14) (v := undef) rfl (by kernel_rfl) (by kernel_rfl) (by kernel_rfl) (fun _ _ _ h => h) (Or.inr ⟨by rfl, rfl⟩) hHeld ?_
      try simp only [Act.put, List.setIfInBounds_toArray, List.set_cons_zero, List.set_cons_succ]
      refine takeL (i := 13) (v := undef) rfl (by kernel_rfl) (by kernel_rfl) (by kernel_rfl) (fun _ _ _ h => h) (Or.inr ⟨by rfl, rfl⟩) hHeld ?_
      try simp only [Act.put, List.setIfInBounds_toArray, List.set_cons_zero, List.set_cons_succ]
      refine takeL (i := 15) (v := undef) rfl (by kernel_rfl) (by kernel_rfl) (by kernel_rfl) (fun _ _ _ h => h) (Or.inr ⟨by rfl, rfl⟩) hHeld ?_
      try simp only [Act.put, List.setIfInBounds_toArray, List.set_cons_zero, List.set_cons_succ]
      refine takeL (i := 16) (v := undef) rfl (by kernel_rfl) (by kernel_rfl) (by kernel_rfl) (fun _ _ _ h => h) (Or.inr ⟨by rfl, rfl⟩) hHeld ?_
      try simp only [Act.put, List.setIfInBounds_toArray, List.set_cons_zero, List.set_cons_succ]
      refine takeL (i := 17) (v := undef) rfl (by kernel_rfl) (by kernel_rfl) (by kernel_rfl) (fun _ _ _ h => h) (Or.inr ⟨by rfl, rfl⟩) hHeld ?_
      try simp only [Act.put, List.setIfInBounds_toArray, List.set_cons_zero, List.set_cons_succ]
      refine takeL (i := 18) (v := ?_) rfl (by kernel_rfl) (by kernel_rfl) (by kernel_rfl) (fun _ _ _ h => h) (Or.inl ⟨by rfl, ?_⟩) hHeld ?_
      rotate_left
      focus (intro wq hSw; clear hSw; go_simp; try with_reducible rfl)
      try simp only [Act.put, List.setIfInBounds_toArray, List.set_cons_zero, List.set_cons_succ]
      refine wpAnyH_done (by kernel_rfl) ?_ _
      refine NoPanic.normal ?_
      simp only [Exit.then]
      go_at_K
      go_wp2_with fail
      refine bodyPost_ret (results_tmp2 rfl _ _ _) rfl ?_
      rw [HF.out]; exact ⟨none, 0, 0, rfl, Rd.nil _, ⟨_, _, _, _, _, _, _, HX.out.1.below hOd⟩, HX.out.2.1.trans (Turn.of_below [] hOd) (by simp), by omega⟩
    · have h1i : ¬ (n : Int) < 1 := by omega
      have h1d : decide ((n : Int) < 1) = false := decide_eq_false h1i
      by_cases h16 : 16 < n
      · have h16i : (n : Int) > 16 := by omega
        have h16d : decide ((n : Int) > 16) = true := decide_eq_true h16i
        have hE := HE.out
        rw [if_neg (by omega)] at hE
        have HF := Lib.hid hE
        clear hE
        go_wp2_with fail
        refine region_old (by kernel_rfl) (fun wd hHeld hSz => ?_)
        have HSz := Lib.hid hSz
        clear hSz
        have hOd := hHeld
        refine takeL (i := 0) (v := ?_) rfl (by kernel_rfl) (by kernel_rfl) (by kernel_rfl) (fun _ _ _ h => h) (Or.inl ⟨by rfl, ?_⟩) hHeld ?_
        rotate_left
        focus (intro wq hSw; clear hSw; go_simp; try with_reducible rfl)
        try simp only [Act.put, List.setIfInBounds_toArray, List.set_cons_zero, List.set_cons_succ]
        refine takeL (i := 1) (v := ?_) rfl (by kernel_rfl) (by kernel_rfl) (by kernel_rfl) (fun _ _ _ h => h) (Or.inl ⟨by rfl, ?_⟩) hHeld ?_
        rotate_left
        focus (intro wq hSw; clear hSw; go_simp; try with_reducible rfl)
        try simp only [Act.put, List.setIfInBounds_toArray, List.set_cons_zero, List.set_cons_succ]
        refine takeL (i := 2) (v := ?_) rfl (by kernel_rfl) (by kernel_rfl) (by kernel_rfl) (fun _ _ _ h => h) (Or.inl ⟨by rfl, ?_⟩) hHeld ?_
        rotate_left
        focus (intro wq hSw; clear hSw; go_simp; try with_reducible rfl)
        try simp only [Act.put, List.setIfInBounds_toArray, List.set_cons_zero, List.set_cons_succ]
        refine takeL (i := 3) (v := ?_) rfl (by kernel_rfl) (by kernel_rfl) (by kernel_rfl) (fun _ _ _ h => h) (Or.inl ⟨by rfl, ?_⟩) hHeld ?_
        rotate_left
        focus (intro wq hSw; clear hSw; go_simp; try with_reducible rfl)
        try simp only [Act.put, List.setIfInBounds_toArray, List.set_cons_zero, List.set_cons_succ]
        refine takeL (i := 4) (v := ?_) rfl (by kernel_rfl) (by kernel_rfl) (by kernel_rfl) (fun _ _ _ h => h) (Or.inl ⟨by rfl, ?_⟩) hHeld ?_
        rotate_left
        focus (intro wq hSw; clear hSw; go_simp; try with_reducible rfl)
        try simp only [Act.put, List.setIfInBounds_toArray, List.set_cons_zero, List.set_cons_succ]
        refine takeL (i := 5) (v := ?_) rfl (by kernel_rfl) (by kernel_rfl) (by kernel_rfl) (fun _ _ _ h => h) (Or.inl ⟨by rfl, ?_⟩) hHeld ?_
        rotate_left
        focus (intro wq hSw; clear hSw; go_simp; try with_reducible rfl)
        try simp only [Act.put, List.setIfInBounds_toArray, List.set_cons_zero, List.set_cons_succ]
        refine takeL (i := 6) (v := ?_) rfl (by kernel_rfl) (by kernel_rfl) (by kernel_rfl) (fun _ _ _ h => h) (Or.inl ⟨by rfl, ?_⟩) hHeld ?_
        rotate_left
        focus (intro wq hSw; clear hSw; go_simp; try with_reducible rfl)
        try simp only [Act.put, List.setIfInBounds_toArray, List.set_cons_zero, List.set_cons_succ]
        refine takeL (i := 7) (v := undef) rfl (by kernel_rfl) (by kernel_rfl) (by kernel_rfl) (fun _ _ _ h => h) (Or.inr ⟨by rfl, rfl⟩) hHeld ?_
        try simp only [Act.put, List.setIfInBounds_toArray, List.set_cons_zero, List.set_cons_succ]
        refine takeL (i := 8) (v := undef) rfl (by kernel_rfl) (by kernel_rfl) (by kernel_rfl) (fun _ _ _ h => h) (Or.inr ⟨by rfl, rfl⟩) hHeld ?_
        try simp only [Act.put, List.setIfInBounds_toArray, List.set_cons_zero, List.set_cons_succ]
        refine takeL (i := 9) (v := undef) rfl (by kernel_rfl) (by kernel_rfl) (by kernel_rfl) (fun _ _ _ h => h) (Or.inr ⟨by rfl, rfl⟩) hHeld ?_
        try simp only [Act.put, List.setIfInBounds_toArray, List.set_cons_zero, List.set_cons_succ]
        refine takeL (i := 10) (v := undef) rfl (by kernel_rfl) (by kernel_rfl) (by kernel_rfl) (fun _ _ _ h => h) (Or.inr ⟨by rfl, rfl⟩) hHeld ?_
        try simp only [Act.put, List.setIfInBounds_toArray, List.set_cons_zero, List.set_cons_succ]
        refine takeL (i := 11) (v := undef) rfl (by kernel_rfl) (by kernel_rfl) (by kernel_rfl) (fun _ _ _ h => h) (Or.inr ⟨by rfl, rfl⟩) hHeld ?_
        try simp only [Act.put, List.setIfInBounds_toArray, List.set_cons_zero, List.set_cons_succ]
        refine takeL (i := 12) (v := undef) rfl (by kernel_rfl) (by kernel_rfl) (by kernel_rfl) (fun _ _ _ h => h) (Or.inr ⟨by rfl, rfl⟩) hHeld ?_
        try simp only [Act.put, List.setIfInBounds_toArray, List.set_cons_zero, List.set_cons_succ]
        refine takeL (i := 14) (v := undef) rfl (by kernel_rfl) (by kernel_rfl) (by kernel_rfl) (fun _ _ _ h => h) (Or.inr ⟨by rfl, rfl⟩) hHeld ?_
        try simp only [Act.put, List.setIfInBounds_toArray, List.set_cons_zero, List.set_cons_succ]
        refine takeL (i := 13) (v := undef) rfl (by kernel_rfl) (by kernel_rfl) (by kernel_rfl) (fun _ _ _ h => h) (Or.inr ⟨by rfl, rfl⟩) hHeld ?_
        try simp only [Act.put, List.setIfInBounds_toArray, List.set_cons_zero, List.set_cons_succ]
        refine takeL (i := 15) (v := undef) rfl (by kernel_rfl) (by kernel_rfl) (by kernel_rfl) (fun _ _ _ h => h) (Or.inr ⟨by rfl, rfl⟩) hHeld ?_
        try simp only [Act.put, List.setIfInBounds_toArray, List.set_cons_zero, List.set_cons_succ]
        refine takeL (i := 16) (v := undef) rfl (by kernel_rfl) (by kernel_rfl) (by kernel_rfl) (fun _ _ _ h => h) (Or.inr ⟨by rfl, rfl⟩) hHeld ?_
        try simp only [Act.put, List.setIfInBounds_toArray, List.set_cons_zero, List.set_cons_succ]
        refine takeL (i := 17) (v := undef) rfl (by kernel_rfl) (by kernel_rfl) (by kernel_rfl) (fun _ _ _ h => h) (Or.inr ⟨by rfl, rfl⟩) hHeld ?_
        try simp only [Act.put, List.setIfInBounds_toArray, List.set_cons_zero, List.set_cons_succ]
        refine takeL (i := 18) (v := ?_) rfl (by kernel_rfl) (by kernel_rfl) (by kernel_rfl) (fun _ _ _ h => h) (Or.inl ⟨by rfl, ?_⟩) hHeld ?_
        rotate_left
        focus (intro wq hSw; clear hSw; go_simp; try with_reducible rfl)
        try simp only [Act.put, List.setIfInBounds_toArray, List.set_cons_zero, List.set_cons_succ]
        refine wpAnyH_done (by kernel_rfl) ?_ _
        refine NoPanic.normal ?_
        simp only [Exit.then]
        go_at_K
        go_wp2_with fail
        refine bodyPost_ret (results_tmp2 rfl _ _ _) rfl ?_
        rw [HF.out]; exact ⟨none, 0, 0, rfl, Rd.nil _, ⟨_, _, _, _, _, _, _, HX.out.1.below hOd⟩, HX.out.2.1.trans (Turn.of_below [] hOd) (by simp), by omega⟩
      · have h16i : ¬ (n : Int) > 16 := by omega
        have h16d : decide ((n : Int) > 16) = false := decide_eq_false h16i
        have hn1 : 1 ≤ n := by omega
        have hn16 : n ≤ 16 := by omega
        have hsub : IntKind.i64.wrap (16 - (n : Int)) = ((16 - n : Nat) : Int) := by rw [IntWalk.i64_in _ (by omega)]; omega
        obtain ⟨A4, n4, c4, hn4, hS4, hR4, _⟩ := HX.out.2.2.1.cut_ex2 (k := 16 - n) (by omega)
        have hs3 := slice_all3 (some ⟨bb, ob, none⟩) 16 c' (16 - n) (fun ad e => by cases e; rfl) (by omega)
        have hcb := fun W : World => conv_i8 n hn256 W
        have HR := Lib.hid hR4
        have hn4' : n4 = n := by omega
        clear hR4 hn4
        subst hn4'
        go_wp2_with fail
        refine region_old (by kernel_rfl) (fun wd hHeld hSz => ?_)
        have HSz := Lib.hid hSz
        clear hSz
        have hOd := hHeld
        refine takeL (i := 0) (v := ?_) rfl (by kernel_rfl) (by kernel_rfl) (by kernel_rfl) (fun _ _ _ h => h) (Or.inl ⟨by rfl, ?_⟩) hHeld ?_
        rotate_left
        focus (intro wq hSw; clear hSw; go_simp; try with_reducible rfl)
        try simp only [Act.put, List.setIfInBounds_toArray, List.set_cons_zero, List.set_cons_succ]
        refine takeL (i := 1) (v := ?_) rfl (by kernel_rfl) (by kernel_rfl) (by kernel_rfl) (fun _ _ _ h => h) (Or.inl ⟨by rfl, ?_⟩) hHeld ?_
        rotate_left
        focus (intro wq hSw; clear hSw; go_simp; try with_reducible rfl)
        try simp only [Act.put, List.setIfInBounds_toArray, List.set_cons_zero, List.set_cons_succ]
        refine takeL (i := 2) (v := ?_) rfl (by kernel_rfl) (by kernel_rfl) (by kernel_rfl) (fun _ _ _ h => h) (Or.inl ⟨by rfl, ?_⟩) hHeld ?_
        rotate_left
        focus (intro wq hSw; clear hSw; go_simp; try with_reducible rfl)
        try simp only [Act.put, List.setIfInBounds_toArray, List.set_cons_zero, List.set_cons_succ]
        refine takeL (i := 3) (v := ?_) rfl (by kernel_rfl) (by kernel_rfl) (by kernel_rfl) (fun _ _ _ h => h) (Or.inl ⟨by rfl, ?_⟩) hHeld ?_
        rotate_left
        focus (intro wq hSw; clear hSw; go_simp; try with_reducible rfl)
        try simp only [Act.put, List.setIfInBounds_toArray, List.set_cons_zero, List.set_cons_succ]
        refine takeL (i := 4) (v := ?_) rfl (by kernel_rfl) (by kernel_rfl) (by kernel_rfl) (fun _ _ _ h => h) (Or.inl ⟨by rfl, ?_⟩) hHeld ?_
        rotate_left
        focus (intro wq hSw; clear hSw; go_simp; try with_reducible rfl)
        try simp only [Act.put, List.setIfInBounds_toArray, List.set_cons_zero, List.set_cons_succ]
        refine takeL (i := 5) (v := ?_) rfl (by kernel_rfl) (by kernel_rfl) (by kernel_rfl) (fun _ _ _ h => h) (Or.inl ⟨by rfl, ?_⟩) hHeld ?_
        rotate_left
        focus (intro wq hSw; clear hSw; go_simp; try with_reducible rfl)
        try simp only [Act.put, List.setIfInBounds_toArray, List.set_cons_zero, List.set_cons_succ]
        refine takeL (i := 6) (v := ?_) rfl (by kernel_rfl) (by kernel_rfl) (by kernel_rfl) (fun _ _ _ h => h) (Or.inl ⟨by rfl, ?_⟩) hHeld ?_
        rotate_left
        focus (intro wq hSw; clear hSw; go_simp; try with_reducible rfl)
        try simp only [Act.put, List.setIfInBounds_toArray, List.set_cons_zero, List.set_cons_succ]
        refine takeL (i := 7) (v := ?_) rfl (by kernel_rfl) (by kernel_rfl) (by kernel_rfl) (fun _ _ _ h => h) (Or.inl ⟨by rfl, ?_⟩) hHeld ?_
        rotate_left
        focus (intro wq hSw; clear hSw; go_simp; try with_reducible rfl)
        try simp only [Act.put, List.setIfInBounds_toArray, List.set_cons_zero, List.set_cons_succ]
        refine takeL (i := 8) (v := ?_) rfl (by kernel_rfl) (by kernel_rfl) (by kernel_rfl) (fun _ _ _ h => h) (Or.inl ⟨by rfl, ?_⟩) hHeld ?_
        rotate_left
        focus (intro wq hSw; clear hSw; go_simp; try with_reducible rfl)
        try simp only [Act.put, List.setIfInBounds_toArray, List.set_cons_zero, List.set_cons_succ]
        refine takeL (i := 9) (v := ?_) rfl (by kernel_rfl) (by kernel_rfl) (by kernel_rfl) (fun _ _ _ h => h) (Or.inl ⟨by rfl, ?_⟩) hHeld ?_
        rotate_left
        focus (intro wq hSw; clear hSw; go_simp; try with_reducible rfl)
        try simp only [Act.put, List.setIfInBounds_toArray, List.set_cons_zero, List.set_cons_succ]
        refine takeL (i := 10) (v := ?_) rfl (by kernel_rfl) (by kernel_rfl) (by kernel_rfl) (fun _ _ _ h => h) (Or.inl ⟨by rfl, ?_⟩) hHeld ?_
        rotate_left
        focus (intro wq hSw; have hRun := hS4 wq; clear hSw; go_simp; try with_reducible rfl)
        try simp only [Act.put, List.setIfInBounds_toArray, List.set_cons_zero, List.set_cons_succ]
        refine takeL (i := 11) (v := ?_) rfl (by kernel_rfl) (by kernel_rfl) (by kernel_rfl) (fun _ _ _ h => h) (Or.inl ⟨by rfl, ?_⟩) hHeld ?_
        rotate_left
        focus (intro wq hSw; clear hSw; go_simp; try with_reducible rfl)
        try simp only [Act.put, List.setIfInBounds_toArray, List.set_cons_zero, List.set_cons_succ]
        refine takeL (i := 12) (v := ?_) rfl (by kernel_rfl) (by kernel_rfl) (by kernel_rfl) (fun _ _ _ h => h) (Or.inl ⟨by rfl, ?_⟩) hHeld ?_
        rotate_left
        focus (intro wq hSw; have hc8 := hcb wq; clear hSw; go_simp; try with_reducible rfl)
        try simp only [Act.put, List.setIfInBounds_toArray, List.set_cons_zero, List.set_cons_succ]
        refine takeL (i := 14) (v := ?_) rfl (by kernel_rfl) (by kernel_rfl) (by kernel_rfl) (fun _ _ _ h => h) (Or.inl ⟨by rfl, ?_⟩) hHeld ?_
        rotate_left
        focus (intro wq hSw; clear hSw; go_simp; try with_reducible rfl)
        try simp only [Act.put, List.setIfInBounds_toArray, List.set_cons_zero, List.set_cons_succ]
        refine wpAnyH_ready (rs := [13]) (by kernel_rfl) (by simp) ?_
        refine consL rfl (fun K hK => ?_) AllReadyH.nil
        go_simp
        refine hK.out _ _ (Old.alloc hHeld _) (fun hHeld => ?_)
        clear hK K
        try simp only [Act.put, List.setIfInBounds_toArray, List.set_cons_zero, List.set_cons_succ]
        refine wpAnyH_ready (rs := [15]) (by kernel_rfl) (by simp) ?_
        refine consL rfl (fun K hK => ?_) AllReadyH.nil
        go_simp
        have hOb := (Old.refl wd).alloc (.cells #[B (UInt8.ofNat n4)] 5)
        refine (repeat_any (UInt8.ofNat n4) n4 hn1 (by omega) _ 1 _ (rd_lit (w := wd) (l2 := [UInt8.ofNat n4]) rfl rfl (by simp))).mono ?_
        rintro e wa ⟨gw, rfl, hRw, hgw, hBw⟩
        refine hK.out _ _ ((Old.alloc hOd _).trans hBw) (fun hHeld => ?_)
        clear hK K
        try simp only [Act.put, List.setIfInBounds_toArray, List.set_cons_zero, List.set_cons_succ]
        refine wpAnyH_ready (rs := [16]) (by kernel_rfl) (by simp) ?_
        refine consL rfl (fun K hK => ?_) AllReadyH.nil
        go_simp
        refine (equalB_any _ _ _ _ _ _ _ _ wa (HR.out.below ((Old.alloc hOd _).trans hBw)) hRw).mono ?_
        rintro e wb ⟨rfl, rfl⟩
        refine hK.out _ _ hHeld (fun hHeld => ?_)
        clear hK K
        try simp only [Act.put, List.setIfInBounds_toArray, List.set_cons_zero, List.set_cons_succ]
        refine takeL (i := 17) (v := ?_) rfl (by kernel_rfl) (by kernel_rfl) (by kernel_rfl) (fun _ _ _ h => h) (Or.inl ⟨by rfl, ?_⟩) hHeld ?_
        rotate_left
        focus (intro wq hSw; clear hSw; go_simp; try with_reducible rfl)
        try simp only [Act.put, List.setIfInBounds_toArray, List.set_cons_zero, List.set_cons_succ]
        refine takeL (i := 18) (v := ?_) rfl (by kernel_rfl) (by kernel_rfl) (by kernel_rfl) (fun _ _ _ h => h) (Or.inl ⟨by rfl, ?_⟩) hHeld ?_
        rotate_left
        focus (intro wq hSw; clear hSw; go_simp; try with_reducible rfl)
        try simp only [Act.put, List.setIfInBounds_toArray, List.set_cons_zero, List.set_cons_succ]
        refine wpAnyH_done (by kernel_rfl) ?_ _
        refine NoPanic.normal ?_
        have hOa : Old w1 wa := (Old.alloc hOd _).trans hBw
        have HY := Lib.hid (And.intro (HX.out.1.below hOa) (HX.out.2.1.trans (Turn.of_below [] hOa) (by simp)))
        have HO := Lib.hid (HX.out.2.2.1.below hOa)
        clear hOd hHeld hBw hRw hgw
        simp only [Exit.then]
        go_at_K
        cases hde : decide (o.drop (16 - n4) = List.replicate n4 (UInt8.ofNat n4)) with
        | true =>
          have hE := HE.out
          rw [if_pos ⟨hn1, hn16, of_decide_eq_true hde⟩] at hE
          have HF := Lib.hid hE
          clear hE
          go_wp2_with fail
          refine bodyPost_ret (results_tmp2 rfl _ _ _) rfl ?_
          rw [HF.out]
          refine ⟨_, _, _, rfl, ?_, ⟨_, _, _, _, _, _, _, HY.out.1⟩, HY.out.2, by omega⟩
          have := HO.out.front (k := 16 - n4) (by omega)
          exact this.recap (Nat.le_refl _) (by unfold maxLen; omega)
        | false =>
          have hE := HE.out
          rw [if_neg (fun h => (of_decide_eq_false hde) h.2.2)] at hE
          have HF := Lib.hid hE
          clear hE
          go_wp2_with fail
          refine bodyPost_ret (results_tmp2 rfl _ _ _) rfl ?_
          rw [HF.out]; exact ⟨none, 0, 0, rfl, Rd.nil _, ⟨_, _, _, _, _, _, _, HY.out.1⟩, HY.out.2, by omega⟩
  · have hmi : ¬ (m : Int) = 16 := by omega
    have hmd : ((m : Int) != 16) = true := by simp; omega
    have hres : endB x.mode x.enc x.E x.D last wait = ([], 65) := by unfold endB; rw [if_pos hm3, he, if_neg (by decide), if_neg (by omega)]
    rw [hres]
    have HH := Lib.hid h
    clear h hres hml
    go_enter Try.func71, Try.ntmps71
    go_wp2_with fail
    refine bodyPost_ret (results_tmp2 rfl _ _ _) rfl ?_
    exact EndB.nil HH.out.bkc 65
end Go.Proofs.Ytiocmebcbhbcmaa
