/-
  Modes: a block taken through: block.
  A drawn region whose operations write to known blocks; a copy as a region's step.
-/
import Derived.Test.YtiocmebcbhbcmaaMo5
import Derived.Test.YtiocmebcbhbcmaaZzReg
namespace Go.Proofs.Ytiocmebcbhbcmaa
set_option maxRecDepth 100000
open Go.RowKit

/-- A block in ECB or CBC: what comes out, the block ahead of the next. -/
def blkF (mode : Nat) (enc : Bool) (E D : List UInt8 → List UInt8) (iv b : List UInt8) : List UInt8 × List UInt8 :=
  if mode = 1 then (if enc then E b else D b, iv) else if enc then (E (xorL b iv), E (xorL b iv)) else (xorL (D b) iv, b)
def nilV : Value := .slice none 0 0
/-- A stream of blocks. -/
def stB (mode : Nat) (enc : Bool) (c : Nat) (last wait : Value) (over : Bool) : Array Value := #[.int .i64 (mode : Int), .bool enc, .pointer (some ⟨c, 0, none⟩), last, wait, .slice none 0 0, .int .i64 0, .slice none 0 0, .slice none 0 0, .slice none 0 0, .slice none 0 0, .bool over]
structure BX where
  d : Nat
  c : Nat
  K : Nat
  R : Nat
  cp : Nat
  mode : Nat
  enc : Bool
  ks : List UInt8
def BX.E (x : BX) : List UInt8 → List UInt8 := encL x.ks x.R
def BX.D (x : BX) : List UInt8 → List UInt8 := decL x.ks x.R
structure BkC (w : World) (x : BX) (W : Option Addr) (m cw : Nat) (L : Option Addr) (nl cl : Nat) (last : List UInt8) : Prop where
  blk : Blk w x.d 59 (stB x.mode x.enc x.c (.slice L nl cl) (.slice W m cw) false)
  cip : Cip w 0 x.c x.ks x.K x.R x.cp
  last : Rd w L nl cl last
  l16 : x.mode ≠ 1 → nl = 16
section
variable {w w' : World} {x : BX} {W L : Option Addr} {m cw nl cl : Nat} {last : List UInt8}
theorem BkC.noB (h : BkC w x W m cw L nl cl last) : NoB w x.d := NoB.of h.blk rfl
theorem BkC.below (h : BkC w x W m cw L nl cl last) (hb : Old w w') : BkC w' x W m cw L nl cl last := ⟨h.blk.below hb, h.cip.below hb, h.last.below hb, h.l16⟩
theorem BkC.c0 (h : BkC w x W m cw L nl cl last) : w.cell? ⟨x.d, 0, none⟩ = some (.int .i64 (x.mode : Int)) := h.blk.cell 0
theorem BkC.c1 (h : BkC w x W m cw L nl cl last) : w.cell? ⟨x.d, 1, none⟩ = some (.bool x.enc) := h.blk.cell 1
theorem BkC.c2 (h : BkC w x W m cw L nl cl last) : w.cell? ⟨x.d, 2, none⟩ = some (.pointer (some ⟨x.c, 0, none⟩)) := h.blk.cell 2
theorem BkC.c3 (h : BkC w x W m cw L nl cl last) : w.cell? ⟨x.d, 3, none⟩ = some (.slice L nl cl) := h.blk.cell 3
theorem BkC.c4 (h : BkC w x W m cw L nl cl last) : w.cell? ⟨x.d, 4, none⟩ = some (.slice W m cw) := h.blk.cell 4
theorem BkC.frozen (h : BkC w x W m cw L nl cl last) (i : Nat) : w.frozen? ⟨x.d, i, none⟩ = false := h.blk.frozen i
theorem BkC.put3 (h : BkC w x W m cw L nl cl last) {A : Option Addr} {n c : Nat} {l : List UInt8} (hr : Rd w A n c l) (h16 : n = 16) : BkC (w.setCell ⟨x.d, 3, none⟩ (.slice A n c)) x W m cw A n c l := by
  have ht : Turn [x.d] w (w.setCell ⟨x.d, 3, none⟩ (.slice A n c)) := (Turn.refl _ _).setCell (.inl (by simp)) _
  have hN := h.noB
  refine ⟨?_, h.cip.turn ht (by simp; exact (h.cip.nd h.blk hN).1) (by simp; exact (h.cip.nd h.blk hN).2), hr.turnB ht (fun g hg => by simp at hg; subst hg; exact hN), fun _ => h16⟩
  exact h.blk.set_ 3 (.slice A n c)
theorem BkC.put4 (h : BkC w x W m cw L nl cl last) (A : Option Addr) (n c : Nat) : BkC (w.setCell ⟨x.d, 4, none⟩ (.slice A n c)) x A n c L nl cl last := by
  have ht : Turn [x.d] w (w.setCell ⟨x.d, 4, none⟩ (.slice A n c)) := (Turn.refl _ _).setCell (.inl (by simp)) _
  have hN := h.noB
  refine ⟨?_, h.cip.turn ht (by simp; exact (h.cip.nd h.blk hN).1) (by simp; exact (h.cip.nd h.blk hN).2), h.last.turnB ht (fun g hg => by simp at hg; subst hg; exact hN), h.l16⟩
  exact h.blk.set_ 4 (.slice A n c)
theorem turn_put {w : World} {d i : Nat} {v : Value} : Turn [d] w (w.setCell ⟨d, i, none⟩ v) := (Turn.refl _ _).setCell (.inl (by simp)) _
end
/-- What block leaves. -/
structure BkRes (w : World) (x : BX) (W : Option Addr) (m cw : Nat) (L : Option Addr) (nl cl : Nat) (last : List UInt8) (A : Option Addr) (cb : Nat) (b : List UInt8) (w' : World) (A' : Option Addr) (c' : Nat) : Prop where
  out : Rd w' A' 16 c' (blkF x.mode x.enc x.E x.D last b).1
  fresh : ∀ ad, A' = some ad → w.heap.size ≤ ad.block
  next : ∃ L' nl' cl', BkC w' x W m cw L' nl' cl' (blkF x.mode x.enc x.E x.D last b).2 ∧ ((L' = L ∧ nl' = nl) ∨ (∀ ad, L' = some ad → w.heap.size ≤ ad.block) ∨ (L' = A ∧ nl' = 16))
  turn : Turn [x.d] w w'
set_option maxHeartbeats 2000000 in
theorem block_any (x : BX) (W : Option Addr) (m cw : Nat) (L : Option Addr) (nl cl : Nat) (last : List UInt8) (A : Option Addr) (cb : Nat) (b : List UInt8) (w : World) (h : BkC w x W m cw L nl cl last) (hr : Rd w A 16 cb b) :
    Calls Try.prog 67 #[.pointer (some ⟨x.d, 0, none⟩), .slice A 16 cb] w fun e w' => ∃ A' c', e = .returned (.slice A' 16 c') ∧ BkRes w x W m cw L nl cl last A cb b w' A' c' := by
  have y0 := h.c0
  have y1 := h.c1
  have y2 := h.c2
  have HH := Lib.hid (And.intro h hr)
  clear h hr
  by_cases hm : x.mode = 1
  · rw [hm] at y0
    cases he : x.enc with
    | true =>
      rw [he] at y1
      have hE := fun w' (ho : Old w w') => enc_any 0 x.c x.ks x.K x.R x.cp A cb b w' (HH.out.1.cip.below ho) (HH.out.2.below ho)
      have HE := Lib.hid (And.intro hE (And.intro hm he))
      clear hE hm he
      go_enter Try.func67, Try.ntmps67
      go_wp2_with fail
      refine (HE.out.1 _ (Old.refl _)).mono ?_
      rintro e w1 ⟨sb, rfl, hsb, hS, hB⟩
      have H1 := Lib.hid (And.intro hsb (And.intro hS hB))
      clear hsb hS hB
      go_wp2_with fail
      go_ret
      refine ⟨_, _, rfl, ?_, fun ad had => by cases had; exact H1.out.1, ⟨L, nl, cl, ?_, .inl ⟨rfl, rfl⟩⟩, Turn.of_below _ H1.out.2.2⟩
      · unfold blkF; rw [if_pos HE.out.2.1, if_pos HE.out.2.2]; exact H1.out.2.1.rd
      · unfold blkF; rw [if_pos HE.out.2.1]; exact HH.out.1.below H1.out.2.2
    | false =>
      rw [he] at y1
      have hE := fun w' (ho : Old w w') => dec_any 0 x.c x.ks x.K x.R x.cp A cb b w' (HH.out.1.cip.below ho) (HH.out.2.below ho)
      have HE := Lib.hid (And.intro hE (And.intro hm he))
      clear hE hm he
      go_enter Try.func67, Try.ntmps67
      go_wp2_with fail
      refine (HE.out.1 _ (Old.refl _)).mono ?_
      rintro e w1 ⟨sb, rfl, hsb, hS, hB⟩
      have H1 := Lib.hid (And.intro hsb (And.intro hS hB))
      clear hsb hS hB
      go_wp2_with fail
      go_ret
      refine ⟨_, _, rfl, ?_, fun ad had => by cases had; exact H1.out.1, ⟨L, nl, cl, ?_, .inl ⟨rfl, rfl⟩⟩, Turn.of_below _ H1.out.2.2⟩
      · unfold blkF; rw [if_pos HE.out.2.1, if_neg (by rw [HE.out.2.2]; decide)]; exact H1.out.2.1.rd
      · unfold blkF; rw [if_pos HE.out.2.1]; exact HH.out.1.below H1.out.2.2
  · have hmd : ((x.mode : Int) == 1) = false := by simp; omega
    have hmi : ¬ (x.mode : Int) = 1 := by omega
    have h16 := HH.out.1.l16 hm
    subst h16
    have y3 := HH.out.1.c3
    cases he : x.enc with
    | true =>
      rw [he] at y1
      have HE := Lib.hid (And.intro hm he)
      clear hm he
      go_enter Try.func67, Try.ntmps67
      go_wp2_with fail
      refine region_oldZ 14 (by kernel_rfl) (fun wd hHeld hSz => ?_)
      have HSz := Lib.hid hSz
      clear hSz
      have hOd := hHeld
      refine takeZ (z := 14) (by kernel_rfl) (i := 0) (v := ?_) rfl (by kernel_rfl) (by kernel_rfl) (by kernel_rfl) (fun _ _ _ h => h) (Or.inl ⟨by rfl, ?_⟩) hHeld ?_
      rotate_left
      focus (intro wq hSw; clear hSw; go_simp; try with_reducible rfl)
      try simp only [Act.put, List.setIfInBounds_toArray, List.set_cons_zero, List.set_cons_succ]
      refine takeZ (z := 14) (by kernel_rfl) (i := 1) (v := ?_) rfl (by kernel_rfl) (by kernel_rfl) (by kernel_rfl) (fun _ _ _ h => h) (Or.inl ⟨by rfl, ?_⟩) hHeld ?_
      rotate_left
      focus (intro wq hSw; clear hSw; go_simp; try with_reducible rfl)
      try simp only [Act.put, List.setIfInBounds_toArray, List.set_cons_zero, List.set_cons_succ]
      refine takeZ (z := 14) (by kernel_rfl) (i := 2) (v := ?_) rfl (by kernel_rfl) (by kernel_rfl) (by kernel_rfl) (fun _ _ _ h => h) (Or.inl ⟨by rfl, ?_⟩) hHeld ?_
      rotate_left
      focus (intro wq hSw; clear hSw; go_simp; try with_reducible rfl)
      try simp only [Act.put, List.setIfInBounds_toArray, List.set_cons_zero, List.set_cons_succ]
      refine takeZ (z := 14) (by kernel_rfl) (i := 3) (v := ?_) rfl (by kernel_rfl) (by kernel_rfl) (by kernel_rfl) (fun _ _ _ h => h) (Or.inl ⟨by rfl, ?_⟩) hHeld ?_
      rotate_left
      focus (intro wq hSw; clear hSw; go_simp; try with_reducible rfl)
      try simp only [Act.put, List.setIfInBounds_toArray, List.set_cons_zero, List.set_cons_succ]
      refine takeZ (z := 14) (by kernel_rfl) (i := 4) (v := ?_) rfl (by kernel_rfl) (by kernel_rfl) (by kernel_rfl) (fun _ _ _ h => h) (Or.inl ⟨by rfl, ?_⟩) hHeld ?_
      rotate_left
      focus (intro wq hSw; have q2 := (HH.out.1.below hSw).c2; clear hSw; go_simp; try with_reducible rfl)
      try simp only [Act.put, List.setIfInBounds_toArray, List.set_cons_zero, List.set_cons_succ]
      refine takeZ (z := 14) (by kernel_rfl) (i := 5) (v := ?_) rfl (by kernel_rfl) (by kernel_rfl) (by kernel_rfl) (fun _ _ _ h => h) (Or.inl ⟨by rfl, ?_⟩) hHeld ?_
      rotate_left
      focus (intro wq hSw; clear hSw; go_simp; try with_reducible rfl)
      try simp only [Act.put, List.setIfInBounds_toArray, List.set_cons_zero, List.set_cons_succ]
      refine takeZ (z := 14) (by kernel_rfl) (i := 6) (v := ?_) rfl (by kernel_rfl) (by kernel_rfl) (by kernel_rfl) (fun _ _ _ h => h) (Or.inl ⟨by rfl, ?_⟩) hHeld ?_
      rotate_left
      focus (intro wq hSw; clear hSw; go_simp; try with_reducible rfl)
      try simp only [Act.put, List.setIfInBounds_toArray, List.set_cons_zero, List.set_cons_succ]
      refine takeZ (z := 14) (by kernel_rfl) (i := 7) (v := ?_) rfl (by kernel_rfl) (by kernel_rfl) (by kernel_rfl) (fun _ _ _ h => h) (Or.inl ⟨by rfl, ?_⟩) hHeld ?_
      rotate_left
      focus (intro wq hSw; clear hSw; go_simp; try with_reducible rfl)
      try simp only [Act.put, List.setIfInBounds_toArray, List.set_cons_zero, List.set_cons_succ]
      refine takeZ (z := 14) (by kernel_rfl) (i := 8) (v := ?_) rfl (by kernel_rfl) (by kernel_rfl) (by kernel_rfl) (fun _ _ _ h => h) (Or.inl ⟨by rfl, ?_⟩) hHeld ?_
      rotate_left
      focus (intro wq hSw; clear hSw; go_simp; try with_reducible rfl)
      try simp only [Act.put, List.setIfInBounds_toArray, List.set_cons_zero, List.set_cons_succ]
      refine takeZ (z := 14) (by kernel_rfl) (i := 9) (v := ?_) rfl (by kernel_rfl) (by kernel_rfl) (by kernel_rfl) (fun _ _ _ h => h) (Or.inl ⟨by rfl, ?_⟩) hHeld ?_
      rotate_left
      focus (intro wq hSw; have q3 := (HH.out.1.below hSw).c3; clear hSw; go_simp; try with_reducible rfl)
      try simp only [Act.put, List.setIfInBounds_toArray, List.set_cons_zero, List.set_cons_succ]
      refine wpAnyT_ready (rs := [10]) (by kernel_rfl) (by simp) ?_
      refine consZ rfl (fun K hK => ?_) AllReadyT.nil
      go_simp
      refine (xored_any A L 16 cb 16 cl b last wd (HH.out.2.below hOd) (HH.out.1.last.below hOd) (Nat.le_refl _) (by omega)).mono ?_
      rintro e wx ⟨rfl, hOx, hBx⟩
      refine hK.out _ _ (hHeld.trans hBx) (fun hHeld => ?_)
      clear hK K
      try simp only [Act.put, List.setIfInBounds_toArray, List.set_cons_zero, List.set_cons_succ]
      refine wpAnyT_ready (rs := [11]) (by kernel_rfl) (by simp) ?_
      refine consZ rfl (fun K hK => ?_) AllReadyT.nil
      go_simp
      refine (enc_any 0 x.c x.ks x.K x.R x.cp _ _ _ wx (HH.out.1.cip.below (hOd.trans hBx)) hOx.rd).mono ?_
      rintro e wa ⟨sb, rfl, hsb, hS, hBw⟩
      refine hK.out _ _ (hHeld.trans hBw) (fun hHeld => ?_)
      clear hK K
      try simp only [Act.put, List.setIfInBounds_toArray, List.set_cons_zero, List.set_cons_succ]
      refine wpAnyT_ready (rs := [12]) (by kernel_rfl) (by simp) ?_
      refine consZ rfl (fun K hK => ?_) AllReadyT.nil
      go_simp
      refine hK.out _ _ hHeld (fun hHeld => ?_)
      clear hK K
      try simp only [Act.put, List.setIfInBounds_toArray, List.set_cons_zero, List.set_cons_succ]
      refine wpAnyT_ready (rs := [13]) (by kernel_rfl) (by simp) ?_
      refine consZ rfl (fun K hK => ?_) AllReadyT.nil
      go_simp
      refine hK.out _ _ hHeld (fun hHeld => ?_)
      clear hK K
      try simp only [Act.put, List.setIfInBounds_toArray, List.set_cons_zero, List.set_cons_succ]
      have f3 := (HH.out.1.below ((hOd.trans hBx).trans hBw)).frozen 3
      have q3 := (HH.out.1.below ((hOd.trans hBx).trans hBw)).c3
      refine wpAnyT_ready (rs := [14]) (by kernel_rfl) (by simp) ?_
      refine consZl rfl (fun K hK => ?_) AllReadyT.nil
      go_simp
      refine hK.out _ _ ?_
      clear hK K
      try simp only [Act.put, List.setIfInBounds_toArray, List.set_cons_zero, List.set_cons_succ]
      refine wpAnyT_done (by kernel_rfl) ?_ _
      refine NoPanic.normal ?_
      try simp only [Exit.then]
      have hOa : Old w wa := (hOd.trans hBx).trans hBw
      obtain ⟨W1, hW⟩ : ∃ W, wa.setCell ⟨x.d, 3, none⟩ (.slice (some ⟨sb, 0, none⟩) 16 16) = W := ⟨_, rfl⟩
      have hP := (HH.out.1.below hOa).put3 (A := some ⟨sb, 0, none⟩) (n := 16) (c := 16) hS.rd rfl
      have hT : Turn [x.d] w W1 := by rw [← hW]; exact (Turn.of_below _ hOa).trans turn_put (fun y hy => .inl hy)
      rw [hW] at hP
      rw [hW]
      have z3 := hP.c3
      have hs2 : w.heap.size ≤ sb := Nat.le_trans (Nat.le_trans hOd.size hBx.size) hsb
      have HZ := Lib.hid (And.intro hP (And.intro hT hs2))
      clear hP hT hW hsb hS hBw hBx hOx hOd hOa f3 q3 hs2
      go_wp2_with fail
      go_ret
      refine ⟨_, _, rfl, ?_, fun ad had => by cases had; exact HZ.out.2.2, ⟨some ⟨sb, 0, none⟩, 16, 16, ?_, .inr (.inl (fun ad had => by cases had; exact HZ.out.2.2))⟩, HZ.out.2.1⟩
      · unfold blkF; rw [if_neg HE.out.1, if_pos HE.out.2]; exact HZ.out.1.last
      · unfold blkF; rw [if_neg HE.out.1, if_pos HE.out.2]; exact HZ.out.1
    | false =>
      rw [he] at y1
      have HE := Lib.hid (And.intro hm he)
      clear hm he
      go_enter Try.func67, Try.ntmps67
      go_wp2_with fail
      refine region_old (by kernel_rfl) (fun wd hHeld hSz => ?_)
      have HSz := Lib.hid hSz
      clear hSz
      have hOd := hHeld
      refine takeL (i := 0) (v := ?_) rfl (by kernel_rfl) (by kernel_rfl) (by kernel_rfl) (fun _ _ _ h => h) (Or.inl ⟨by rfl, ?_⟩) hHeld ?_
      rotate_left
      focus (intro wq hSw; clear hSw; go_simp; try with_reducible rfl)
      try simp only [Act.put, List.setIfInBounds_toArray, List.set_cons_zero, List.set_cons_succ]
      refine takeL (i := 1) (v := ?_) rfl (by kernel_rfl) (by kernel_rfl) (by kernel_rfl) (fun _ _ _ h => h) (Or.inl ⟨by rfl, ?_⟩) hHeld ?_
      rotate_left
      focus (intro wq hSw; clear hSw; go_simp; try with_reducible rfl)
      try simp only [Act.put, List.setIfInBounds_toArray, List.set_cons_zero, List.set_cons_succ]
      refine takeL (i := 2) (v := ?_) rfl (by kernel_rfl) (by kernel_rfl) (by kernel_rfl) (fun _ _ _ h => h) (Or.inl ⟨by rfl, ?_⟩) hHeld ?_
      rotate_left
      focus (intro wq hSw; clear hSw; go_simp; try with_reducible rfl)
      try simp only [Act.put, List.setIfInBounds_toArray, List.set_cons_zero, List.set_cons_succ]
      refine takeL (i := 3) (v := ?_) rfl (by kernel_rfl) (by kernel_rfl) (by kernel_rfl) (fun _ _ _ h => h) (Or.inl ⟨by rfl, ?_⟩) hHeld ?_
      rotate_left
      focus (intro wq hSw; have q2 := (HH.out.1.below hSw).c2; clear hSw; go_simp; try with_reducible rfl)
      try simp only [Act.put, List.setIfInBounds_toArray, List.set_cons_zero, List.set_cons_succ]
      refine takeL (i := 4) (v := ?_) rfl (by kernel_rfl) (by kernel_rfl) (by kernel_rfl) (fun _ _ _ h => h) (Or.inl ⟨by rfl, ?_⟩) hHeld ?_
      rotate_left
      focus (intro wq hSw; clear hSw; go_simp; try with_reducible rfl)
      try simp only [Act.put, List.setIfInBounds_toArray, List.set_cons_zero, List.set_cons_succ]
      refine takeL (i := 6) (v := ?_) rfl (by kernel_rfl) (by kernel_rfl) (by kernel_rfl) (fun _ _ _ h => h) (Or.inl ⟨by rfl, ?_⟩) hHeld ?_
      rotate_left
      focus (intro wq hSw; clear hSw; go_simp; try with_reducible rfl)
      try simp only [Act.put, List.setIfInBounds_toArray, List.set_cons_zero, List.set_cons_succ]
      refine takeL (i := 7) (v := ?_) rfl (by kernel_rfl) (by kernel_rfl) (by kernel_rfl) (fun _ _ _ h => h) (Or.inl ⟨by rfl, ?_⟩) hHeld ?_
      rotate_left
      focus (intro wq hSw; clear hSw; go_simp; try with_reducible rfl)
      try simp only [Act.put, List.setIfInBounds_toArray, List.set_cons_zero, List.set_cons_succ]
      refine takeL (i := 8) (v := ?_) rfl (by kernel_rfl) (by kernel_rfl) (by kernel_rfl) (fun _ _ _ h => h) (Or.inl ⟨by rfl, ?_⟩) hHeld ?_
      rotate_left
      focus (intro wq hSw; clear hSw; go_simp; try with_reducible rfl)
      try simp only [Act.put, List.setIfInBounds_toArray, List.set_cons_zero, List.set_cons_succ]
      refine takeL (i := 9) (v := ?_) rfl (by kernel_rfl) (by kernel_rfl) (by kernel_rfl) (fun _ _ _ h => h) (Or.inl ⟨by rfl, ?_⟩) hHeld ?_
      rotate_left
      focus (intro wq hSw; have q3 := (HH.out.1.below hSw).c3; clear hSw; go_simp; try with_reducible rfl)
      try simp only [Act.put, List.setIfInBounds_toArray, List.set_cons_zero, List.set_cons_succ]
      refine wpAnyH_ready (rs := [5]) (by kernel_rfl) (by simp) ?_
      refine consL rfl (fun K hK => ?_) AllReadyH.nil
      go_simp
      refine (dec_any 0 x.c x.ks x.K x.R x.cp A cb b wd (HH.out.1.cip.below hOd) (HH.out.2.below hOd)).mono ?_
      rintro e wa ⟨sb, rfl, hsb, hS, hBw⟩
      refine hK.out _ _ (hHeld.trans hBw) (fun hHeld => ?_)
      clear hK K
      try simp only [Act.put, List.setIfInBounds_toArray, List.set_cons_zero, List.set_cons_succ]
      refine wpAnyH_ready (rs := [10]) (by kernel_rfl) (by simp) ?_
      refine consL rfl (fun K hK => ?_) AllReadyH.nil
      go_simp
      refine (xored_any _ L 16 16 16 cl _ last wa hS.rd (HH.out.1.last.below (hOd.trans hBw)) (Nat.le_refl _) (by omega)).mono ?_
      rintro e wb ⟨rfl, hOx, hBx⟩
      refine hK.out _ _ (hHeld.trans hBx) (fun hHeld => ?_)
      clear hK K
      try simp only [Act.put, List.setIfInBounds_toArray, List.set_cons_zero, List.set_cons_succ]
      refine wpAnyH_ready (rs := [11]) (by kernel_rfl) (by simp) ?_
      refine consL rfl (fun K hK => ?_) AllReadyH.nil
      go_simp
      refine hK.out _ _ hHeld (fun hHeld => ?_)
      clear hK K
      try simp only [Act.put, List.setIfInBounds_toArray, List.set_cons_zero, List.set_cons_succ]
      refine wpAnyH_done (by kernel_rfl) ?_ _
      refine NoPanic.normal ?_
      have hOa : Old w wb := (hOd.trans hBw).trans hBx
      have hP := HH.out.1.below hOa
      have z3 := hP.c3
      have f3 := hP.frozen 3
      have hs2 : w.heap.size ≤ wa.heap.size := Nat.le_trans hOd.size hBw.size
      have HZ := Lib.hid (And.intro hP (And.intro hOa (And.intro hs2 hOx)))
      clear hP hOa hsb hS hBw hBx hOx hOd hs2 hHeld
      simp only [Exit.then]
      go_at_K
      go_wp2_with fail
      go_ret
      have hN := HZ.out.1.noB
      have hO2 := HZ.out.2.2.2.rd.turnB (turn_put (d := x.d) (i := 3) (v := .slice A 16 cb)) (fun g hg => by simp at hg; subst hg; exact hN)
      refine ⟨_, _, rfl, ?_, ?_, ⟨A, 16, cb, ?_, .inr (.inr ⟨rfl, rfl⟩)⟩, (Turn.of_below _ HZ.out.2.1).trans turn_put (fun y hy => .inl hy)⟩
      · unfold blkF; rw [if_neg HE.out.1, if_neg (by rw [HE.out.2]; decide)]; exact hO2
      · intro ad had
        cases had
        exact HZ.out.2.2.1
      · unfold blkF; rw [if_neg HE.out.1, if_neg (by rw [HE.out.2]; decide)]; exact HZ.out.1.put3 (HH.out.2.below HZ.out.2.1) rfl
end Go.Proofs.Ytiocmebcbhbcmaa
namespace Go.Proofs.Ytiocmebcbhbcmaa
open Go.RowKit

theorem region_turnS {P : Program} {ops : Array Oper} {Q : Exit → Act → World → Prop} {id : Nat} {a : Act} {w : World} (T : List Nat) (hm : P.follows .mixedOrders = true)
    (h : ∀ wd, Old w wd → Turn T w wd → w.heap.size = wd.heap.size → wpAnyH P .any ops (NoPanic Q) (Turn T w) ops.size (Array.replicate ops.size false) a wd) : (Code.region id ops true).wp P Q a w :=
  wp_region_noPanic (wp_region_held_drew hm (Turn.drew (Turn.refl T w)) (fun hS => h _ (Old.drew (Old.refl w)) hS rfl))
theorem step_copyR {ops : Array Oper} {o : Oper} {a : Act} {w : World} {K : Act → World → Prop} {Q : Exit → Act → World → Prop} {E : Prop} (hgd : o.guard = none) (d s : Operand)
    (ho : o.op = .call { callee := .builtin .copy, args := #[d, s], argTypes := #[22, 22] })
    (base g n0 c0 off dl dc : Nat) (l : List UInt8) (hown : Own w base (.slice (some ⟨g, 0, none⟩) n0 c0) l) (hd : a.eval d = .slice (some ⟨g, off, none⟩) dl dc) (hoff : off + dl ≤ l.length)
    (A : Option Addr) (m c : Nat) (l2 : List UInt8) (hs : a.eval s = .slice A m c) (hrd : Rd w A m c l2)
    (h : ∀ w', Own w' base (.slice (some ⟨g, 0, none⟩) n0 c0) (splice l off (l2.take dl)) → w.grownBy w' (some g) → K (a.put o.dst (goInt ((min m dl : Nat) : Int))) w') :
    if Region.wanted o (yielded ops a.tmps) = true then Oper.wp Try.prog o a w K Q else E := by
  rw [if_pos (by simp [Region.wanted, hgd])]
  exact op_copy d s ho base g n0 c0 off dl dc l hown hd hoff A m c l2 hs hrd h
/-- The same in a plain region. -/
theorem wp_copyR {ops : Array Oper} {rest : List Oper} {o : Oper} {a : Act} {w : World} {Q : Exit → Act → World → Prop} (hgd : o.guard = none) (d s : Operand)
    (ho : o.op = .call { callee := .builtin .copy, args := #[d, s], argTypes := #[22, 22] })
    (base g n0 c0 off dl dc : Nat) (l : List UInt8) (hown : Own w base (.slice (some ⟨g, 0, none⟩) n0 c0) l) (hd : a.eval d = .slice (some ⟨g, off, none⟩) dl dc) (hoff : off + dl ≤ l.length)
    (A : Option Addr) (m c : Nat) (l2 : List UInt8) (hs : a.eval s = .slice A m c) (hrd : Rd w A m c l2)
    (h : ∀ w', Own w' base (.slice (some ⟨g, 0, none⟩) n0 c0) (splice l off (l2.take dl)) → w.grownBy w' (some g) → wpList Try.prog ops Q rest (a.put o.dst (goInt ((min m dl : Nat) : Int))) w') :
    wpList Try.prog ops Q (o :: rest) a w :=
  wpList_plain hgd fun _ hK => op_copy d s ho base g n0 c0 off dl dc l hown hd hoff A m c l2 hs hrd fun w' h1 h2 => hK _ _ (h w' h1 h2)
end Go.Proofs.Ytiocmebcbhbcmaa
