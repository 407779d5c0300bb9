/-
  Modes, the document's answer: ctr.
  Modes: CMAC.
-/
import Derived.Test.YtiocmebcbhbcmaaZzMr4
import Derived.Test.YtiocmebcbhbcmaaZzMr3
namespace Go.Proofs.Ytiocmebcbhbcmaa
set_option maxRecDepth 100000
open Go.RowKit

theorem cnt1_step (E : List UInt8 → List UInt8) (wd m : Nat) (b ctr : List UInt8) (hE : (E ctr).length = 16) (hm : m = min b.length 16) (hb : b ≠ []) : (cnt1 E wd b [] ctr).1 = xorL (b.take m) ((E ctr).take m) ++ (cnt1 E wd (b.drop m) [] (stepL wd ctr)).1 := by
  have h0 : E ctr ≠ [] := fun h => by rw [h] at hE; cases hE
  rw [cnt1_fill E wd b ctr hb h0, cnt1_part E wd _ m b (E ctr) (by omega) (by omega)]
  simp only
  congr 1
  by_cases h16 : b.length ≤ 16
  · rw [List.drop_eq_nil_of_le (show b.length ≤ m by omega)]
    rfl
  · rw [List.drop_eq_nil_of_le (show (E ctr).length ≤ m by omega)]
/-- What stands between two rounds of ctr. -/
structure CtS (w : World) (E : List UInt8 → List UInt8) (wd N : Nat) (TG : List UInt8) (wr : World) (A1 : Option Addr) (c1 : Nat) (vl : List UInt8) (A2 : Option Addr) (n2 c2 : Nat) (bl : List UInt8) (A3 : Option Addr) (n3 c3 : Nat) (ol : List UInt8) : Prop where
  iv : Rd wr A1 16 c1 vl
  b : Rd wr A2 n2 c2 bl
  bo : ∀ ad, A2 = some ad → ad.block < w.heap.size
  out : Own wr w.heap.size (.slice A3 n3 c3) ol
  io : ∀ ad, A1 = some ad → (Value.slice A3 n3 c3).ownBlock ≠ some ad.block
  len : ol.length + n2 ≤ N
  old : Old w wr
  tot : ol ++ (cnt1 E wd bl [] vl).1 = TG
theorem CtS.next {w wr w1 w2 w3 : World} {E : List UInt8 → List UInt8} {wd N m : Nat} {TG : List UInt8} {A1 A2 A3 A5 A6 : Option Addr} {c1 n2 c2 n3 c3 n5 c5 n6 c6 g cc : Nat} {iv b out : List UInt8} (h : CtS w E wd N TG wr A1 c1 iv A2 n2 c2 b A3 n3 c3 out) (hE : (E iv).length = 16) (hm : m = min n2 16) (hn : 0 < n2)
    (hO : Old wr w1) (hG : Grew w.heap.size w1 w2 (.slice A3 n3 c3) A5 n5 c5 (out ++ xorL (b.take m) ((E iv).take m))) (hx : (xorL (b.take m) ((E iv).take m)).length = m)
    (hN : Own w3 w2.heap.size (.slice (some ⟨g, 0, none⟩) 16 cc) (stepL wd iv)) (hB : Old w2 w3)
    (hb : Rd wr A6 n6 c6 (b.drop m)) (hn6 : n6 = n2 - m) (hb2 : ∀ ad, A6 = some ad → ∃ a0, A2 = some a0 ∧ ad.block = a0.block) : CtS w E wd N TG w3 (some ⟨g, 0, none⟩) cc (stepL wd iv) A6 n6 c6 (b.drop m) A5 n5 c5 (out ++ xorL (b.take m) ((E iv).take m)) := by
  have hT : Turn (Value.slice A3 n3 c3).ownBlock.toList w1 w2 := Turn.of_grown hG.grown
  have hbo : ∀ ad, A6 = some ad → ad.block < w.heap.size := fun ad e => by
    obtain ⟨a0, e1, e2⟩ := hb2 ad e
    rw [e2]; exact h.bo a0 e1
  have hbl : b.length = n2 := h.b.1.symm
  refine ⟨hN.rd, ((hb.below hO).turn hT (fun ad e hm => ?_)).below hB, hbo, hG.own.below hB, fun ad e e2 => ?_, ?_, ((h.old.trans hO).trans_below hG.below).trans hB, ?_⟩
  · have h1 := (h.out.lt (by simpa using hm)).1
    have := hbo ad e
    omega
  · have h1 := (hG.own.lt e2).2
    have h2 := hN.addr_ge ad e
    omega
  · have := h.len
    rw [List.length_append, hx]
    omega
  · rw [← h.tot, cnt1_step E wd m b iv hE (by rw [hbl]; exact hm) (fun e => by rw [e] at hbl; simp at hbl; omega), List.append_assoc]
set_option maxHeartbeats 2000000 in
theorem rctr_any (c wd : Nat) (E D : List UInt8 → List UInt8) (A C : Option Addr) (ca n cb : Nat) (iv b : List UInt8) (w : World) (hE : REn w c E D) (hEl : ∀ l, l.length = 16 → (E l).length = 16) (hwd : wd ≤ 128) (hiv : Rd w A 16 ca iv) (hb : Rd w C n cb b) (hn : n ≤ 100000) :
    Calls Try.prog 36 #[.pointer (some ⟨c, 0, none⟩), .int .i64 (wd : Int), .slice A 16 ca, .slice C n cb] w fun e w' => ∃ A' n' c', e = .returned (.slice A' n' c') ∧ Own w' w.heap.size (.slice A' n' c') (cnt1 E wd b [] iv).1 ∧ Old w w' := by
  obtain ⟨TG, hTG⟩ : ∃ T, (cnt1 E wd b [] iv).1 = T := ⟨_, rfl⟩
  rw [hTG]
  have hst : CtS w E wd n TG w A ca iv C n cb b none 0 0 [] := ⟨hiv, hb, fun ad e => hb.lt ad e, Own.nil _ _, fun ad _ => by simp [Value.ownBlock], by simp, Old.refl _, by rw [List.nil_append]; exact hTG⟩
  have HH := Lib.hid (And.intro hst (And.intro hE (And.intro hEl hwd)))
  clear hst hE hTG hiv hb hEl hwd
  go_enter Try.func36, Try.ntmps36
  go_wp2_with fail
  go_loopw [2, 3, 9] (fun v1 v2 v3 wr => ∃ (A1 : Option Addr) (c1 : Nat) (iv : List UInt8) (A2 : Option Addr) (n2 c2 : Nat) (b : List UInt8) (A3 : Option Addr) (n3 c3 : Nat) (out : List UInt8), v1 = .slice A1 16 c1 ∧ v2 = .slice A2 n2 c2 ∧ v3 = .slice A3 n3 c3 ∧ CtS w E wd n TG wr A1 c1 iv A2 n2 c2 b A3 n3 c3 out) (fun _ v2 _ _ => sliceLen v2)
  case atStart => exact ⟨A, ca, iv, C, n, cb, b, none, 0, 0, [], rfl, rfl, rfl, HH.out.1⟩
  case round =>
    obtain ⟨A1, c1, iv1, A2, n2, c2, b2, A3, n3, c3, out, rfl, rfl, rfl, hI⟩ := hrel
    have hn2 : n2 ≤ 100000 := by have := hI.len; omega
    by_cases hlt : 0 < n2
    · have hlti : (n2 : Int) > 0 := by omega
      have hltd : decide ((n2 : Int) > 0) = true := decide_eq_true hlti
      have hiv16 : iv1.length = 16 := hI.iv.1.symm
      by_cases h16 : 16 < n2
      · have h16i : (n2 : Int) > 16 := by omega
        have h16d : decide ((n2 : Int) > 16) = true := decide_eq_true h16i
        obtain ⟨A6, n6, c6, hn6, hS6, hR6, hB6⟩ := hI.b.cut_ex2 (k := 16) (by omega)
        have hsl := slice_to A2 n2 c2 16 hI.b.spot (by have := hI.b.2.1; omega)
        rw [show ((16 : Nat) : Int) = 16 from rfl] at hS6 hsl
        have hrf := hI.b.front (k := 16) (by omega)
        have HI := Lib.hid (And.intro hI (And.intro hrf (And.intro hR6 (And.intro hB6 (And.intro hn6 (And.intro hlt (And.intro hiv16 h16)))))))
        have hmn : n2 ≤ 100000 := hn2
        clear hI hrf hR6 hB6 hn6 hlt hiv16
        go_upto_region 7 with (go_at_call 33; refine (HH.out.2.1.1 wr _ _ _ HI.out.1.old HI.out.1.iv).mono ?_; rintro e w5 ⟨sb, rfl, hR, hB, hsb⟩; have H5 := Lib.hid (And.intro hR hB); clear hR hB hsb)
        have hsk := slice_to (some ⟨sb, 0, none⟩) 16 16 16 (fun ad e => by cases e; rfl) (by have := HI.out.2.2.2.2.2.2.2; omega)
        rw [show ((16 : Nat) : Int) = 16 from rfl] at hsk
        have hm16 : 16 ≤ 16 := by have := HI.out.2.2.2.2.2.2.2; omega
        have HK := Lib.hid (And.intro hsl hsk)
        clear hsl hsk
        refine region_old (by kernel_rfl) (fun wd hHeld hSz => ?_)
        have HSz := Lib.hid hSz
        clear hSz
        have hOd := hHeld
        refine takeL (i := 0) (v := ?_) rfl (by kernel_rfl) (by kernel_rfl) (by kernel_rfl) (fun _ _ _ h => h) (Or.inl ⟨by rfl, ?_⟩) hHeld ?_
        rotate_left
        focus (intro wq hSw; clear hSw; go_simp; try with_reducible rfl)
        try simp only [Act.put, List.setIfInBounds_toArray, List.set_cons_zero, List.set_cons_succ]
        refine takeL (i := 1) (v := ?_) rfl (by kernel_rfl) (by kernel_rfl) (by kernel_rfl) (fun _ _ _ h => h) (Or.inl ⟨by rfl, ?_⟩) hHeld ?_
        rotate_left
        focus (intro wq hSw; clear hSw; go_simp; try with_reducible rfl)
        try simp only [Act.put, List.setIfInBounds_toArray, List.set_cons_zero, List.set_cons_succ]
        refine takeL (i := 2) (v := ?_) rfl (by kernel_rfl) (by kernel_rfl) (by kernel_rfl) (fun _ _ _ h => h) (Or.inl ⟨by rfl, ?_⟩) hHeld ?_
        rotate_left
        focus (intro wq hSw; have hRun := HK.out.1 wq; clear hSw; go_simp; try with_reducible rfl)
        try simp only [Act.put, List.setIfInBounds_toArray, List.set_cons_zero, List.set_cons_succ]
        refine takeL (i := 3) (v := ?_) rfl (by kernel_rfl) (by kernel_rfl) (by kernel_rfl) (fun _ _ _ h => h) (Or.inl ⟨by rfl, ?_⟩) hHeld ?_
        rotate_left
        focus (intro wq hSw; clear hSw; go_simp; try with_reducible rfl)
        try simp only [Act.put, List.setIfInBounds_toArray, List.set_cons_zero, List.set_cons_succ]
        refine takeL (i := 4) (v := ?_) rfl (by kernel_rfl) (by kernel_rfl) (by kernel_rfl) (fun _ _ _ h => h) (Or.inl ⟨by rfl, ?_⟩) hHeld ?_
        rotate_left
        focus (intro wq hSw; clear hSw; go_simp; try with_reducible rfl)
        try simp only [Act.put, List.setIfInBounds_toArray, List.set_cons_zero, List.set_cons_succ]
        refine takeL (i := 5) (v := ?_) rfl (by kernel_rfl) (by kernel_rfl) (by kernel_rfl) (fun _ _ _ h => h) (Or.inl ⟨by rfl, ?_⟩) hHeld ?_
        rotate_left
        focus (intro wq hSw; have hRun := HK.out.2 wq; clear hSw; go_simp; try with_reducible rfl)
        try simp only [Act.put, List.setIfInBounds_toArray, List.set_cons_zero, List.set_cons_succ]
        refine wpAnyH_ready (rs := [6]) (by kernel_rfl) (by simp) ?_
        refine consL rfl (fun K hK => ?_) AllReadyH.nil
        go_simp
        obtain ⟨wd6, hwd6⟩ : ∃ x, x = wd := ⟨_, rfl⟩
        subst hwd6
        refine (rxorn_any A2 (some ⟨sb, 0, none⟩) 16 c2 16 16 _ _ wd6 ((HI.out.2.1.below H5.out.2).below hOd) ((H5.out.1.front (k := 16) (by omega)).below hOd) (Nat.le_refl _) (by omega)).mono ?_
        rintro e w6 ⟨rfl, hO6, hB6⟩
        refine hK.out _ _ (Old.trans hHeld hB6) (fun hHeld => ?_)
        clear hK K
        try simp only [Act.put, List.setIfInBounds_toArray, List.set_cons_zero, List.set_cons_succ]
        refine takeL (i := 7) (v := ?_) rfl (by kernel_rfl) (by kernel_rfl) (by kernel_rfl) (fun _ _ _ h => h) (Or.inl ⟨by rfl, ?_⟩) hHeld ?_
        rotate_left
        focus (intro wq hSw; clear hSw; go_simp; try with_reducible rfl)
        try simp only [Act.put, List.setIfInBounds_toArray, List.set_cons_zero, List.set_cons_succ]
        refine wpAnyH_done (by kernel_rfl) ?_ _
        refine NoPanic.normal ?_
        have H6 := Lib.hid (And.intro hO6.rd (And.intro (Old.trans H5.out.2 (Old.trans hOd hB6)) hO6.len))
        clear hO6 hB6 hOd hHeld
        try simp only [Exit.then]
        try go_at_K
        go_wp2_with (first | (at_builtin; refine wp_app2 (.tmp 30) (.tmp 31) w.heap.size (.slice A3 n3 c3) out (HI.out.1.out.below H6.out.2.1) (Nat.le_trans HI.out.1.old.size H6.out.2.1.size) (some ⟨wd6.heap.size, 0, none⟩) 16 16 _ H6.out.1 (by have h1 := H6.out.2.2; have := HI.out.1.len; omega) rfl rfl rfl rfl ?_; intro A7 n7 c7 w7 hn7 hG; have H7 := Lib.hid hG; clear hG) | (go_at_call 61; refine (rnext_any A1 c1 wd iv1 w7 ((HI.out.1.iv.below H6.out.2.1).turn (Turn.of_grown H7.out.grown) (fun ad e hm => HI.out.1.io ad e (by simpa using hm))) HH.out.2.2.2).mono ?_; rintro e w8 ⟨g8, cc8, rfl, hO8, hB8⟩; have H8 := Lib.hid (And.intro hO8 hB8); clear hO8 hB8))
        have hnx := HI.out.1.next (m := 16) (HH.out.2.2.1 iv1 HI.out.2.2.2.2.2.2.1) (by have := HI.out.2.2.2.2.2.2.2; omega) HI.out.2.2.2.2.2.1 H6.out.2.1 H7.out H6.out.2.2.symm H8.out.1 H8.out.2 HI.out.2.2.1 HI.out.2.2.2.2.1 HI.out.2.2.2.1
        have HN := Lib.hid hnx
        clear hnx
        go_roundw
        case rel => exact ⟨_, _, _, _, _, _, _, _, _, _, _, rfl, rfl, rfl, HN.out⟩
        case measure => have := HI.out.2.2.2.2.1; have := HI.out.2.2.2.2.2.1; have := HI.out.2.2.2.2.2.2.2; simp [sliceLen]; omega
      · have h16i : ¬ (n2 : Int) > 16 := by omega
        have h16d : decide ((n2 : Int) > 16) = false := decide_eq_false h16i
        obtain ⟨A6, n6, c6, hn6, hS6, hR6, hB6⟩ := hI.b.cut_ex2 (k := n2) (by omega)
        have hsl := slice_to A2 n2 c2 n2 hI.b.spot (by have := hI.b.2.1; omega)
        skip
        have hrf := hI.b.front (k := n2) (by omega)
        have HI := Lib.hid (And.intro hI (And.intro hrf (And.intro hR6 (And.intro hB6 (And.intro hn6 (And.intro hlt (And.intro hiv16 h16)))))))
        have hmn : n2 ≤ 100000 := hn2
        clear hI hrf hR6 hB6 hn6 hlt hiv16
        go_upto_region 7 with (go_at_call 33; refine (HH.out.2.1.1 wr _ _ _ HI.out.1.old HI.out.1.iv).mono ?_; rintro e w5 ⟨sb, rfl, hR, hB, hsb⟩; have H5 := Lib.hid (And.intro hR hB); clear hR hB hsb)
        have hsk := slice_to (some ⟨sb, 0, none⟩) 16 16 n2 (fun ad e => by cases e; rfl) (by have := HI.out.2.2.2.2.2.2.2; omega)
        skip
        have hm16 : n2 ≤ 16 := by have := HI.out.2.2.2.2.2.2.2; omega
        have HK := Lib.hid (And.intro hsl hsk)
        clear hsl hsk
        refine region_old (by kernel_rfl) (fun wd hHeld hSz => ?_)
        have HSz := Lib.hid hSz
        clear hSz
        have hOd := hHeld
        refine takeL (i := 0) (v := ?_) rfl (by kernel_rfl) (by kernel_rfl) (by kernel_rfl) (fun _ _ _ h => h) (Or.inl ⟨by rfl, ?_⟩) hHeld ?_
        rotate_left
        focus (intro wq hSw; clear hSw; go_simp; try with_reducible rfl)
        try simp only [Act.put, List.setIfInBounds_toArray, List.set_cons_zero, List.set_cons_succ]
        refine takeL (i := 1) (v := ?_) rfl (by kernel_rfl) (by kernel_rfl) (by kernel_rfl) (fun _ _ _ h => h) (Or.inl ⟨by rfl, ?_⟩) hHeld ?_
        rotate_left
        focus (intro wq hSw; clear hSw; go_simp; try with_reducible rfl)
        try simp only [Act.put, List.setIfInBounds_toArray, List.set_cons_zero, List.set_cons_succ]
        refine takeL (i := 2) (v := ?_) rfl (by kernel_rfl) (by kernel_rfl) (by kernel_rfl) (fun _ _ _ h => h) (Or.inl ⟨by rfl, ?_⟩) hHeld ?_
        rotate_left
        focus (intro wq hSw; have hRun := HK.out.1 wq; clear hSw; go_simp; try with_reducible rfl)
        try simp only [Act.put, List.setIfInBounds_toArray, List.set_cons_zero, List.set_cons_succ]
        refine takeL (i := 3) (v := ?_) rfl (by kernel_rfl) (by kernel_rfl) (by kernel_rfl) (fun _ _ _ h => h) (Or.inl ⟨by rfl, ?_⟩) hHeld ?_
        rotate_left
        focus (intro wq hSw; clear hSw; go_simp; try with_reducible rfl)
        try simp only [Act.put, List.setIfInBounds_toArray, List.set_cons_zero, List.set_cons_succ]
        refine takeL (i := 4) (v := ?_) rfl (by kernel_rfl) (by kernel_rfl) (by kernel_rfl) (fun _ _ _ h => h) (Or.inl ⟨by rfl, ?_⟩) hHeld ?_
        rotate_left
        focus (intro wq hSw; clear hSw; go_simp; try with_reducible rfl)
        try simp only [Act.put, List.setIfInBounds_toArray, List.set_cons_zero, List.set_cons_succ]
        refine takeL (i := 5) (v := ?_) rfl (by kernel_rfl) (by kernel_rfl) (by kernel_rfl) (fun _ _ _ h => h) (Or.inl ⟨by rfl, ?_⟩) hHeld ?_
        rotate_left
        focus (intro wq hSw; have hRun := HK.out.2 wq; clear hSw; go_simp; try with_reducible rfl)
        try simp only [Act.put, List.setIfInBounds_toArray, List.set_cons_zero, List.set_cons_succ]
        refine wpAnyH_ready (rs := [6]) (by kernel_rfl) (by simp) ?_
        refine consL rfl (fun K hK => ?_) AllReadyH.nil
        go_simp
        obtain ⟨wd6, hwd6⟩ : ∃ x, x = wd := ⟨_, rfl⟩
        subst hwd6
        refine (rxorn_any A2 (some ⟨sb, 0, none⟩) n2 c2 n2 16 _ _ wd6 ((HI.out.2.1.below H5.out.2).below hOd) ((H5.out.1.front (k := n2) (by omega)).below hOd) (Nat.le_refl _) (by omega)).mono ?_
        rintro e w6 ⟨rfl, hO6, hB6⟩
        refine hK.out _ _ (Old.trans hHeld hB6) (fun hHeld => ?_)
        clear hK K
        try simp only [Act.put, List.setIfInBounds_toArray, List.set_cons_zero, List.set_cons_succ]
        refine takeL (i := 7) (v := ?_) rfl (by kernel_rfl) (by kernel_rfl) (by kernel_rfl) (fun _ _ _ h => h) (Or.inl ⟨by rfl, ?_⟩) hHeld ?_
        rotate_left
        focus (intro wq hSw; clear hSw; go_simp; try with_reducible rfl)
        try simp only [Act.put, List.setIfInBounds_toArray, List.set_cons_zero, List.set_cons_succ]
        refine wpAnyH_done (by kernel_rfl) ?_ _
        refine NoPanic.normal ?_
        have H6 := Lib.hid (And.intro hO6.rd (And.intro (Old.trans H5.out.2 (Old.trans hOd hB6)) hO6.len))
        clear hO6 hB6 hOd hHeld
        try simp only [Exit.then]
        try go_at_K
        go_wp2_with (first | (at_builtin; refine wp_app2 (.tmp 30) (.tmp 31) w.heap.size (.slice A3 n3 c3) out (HI.out.1.out.below H6.out.2.1) (Nat.le_trans HI.out.1.old.size H6.out.2.1.size) (some ⟨wd6.heap.size, 0, none⟩) n2 n2 _ H6.out.1 (by have h1 := H6.out.2.2; have := HI.out.1.len; omega) rfl rfl rfl rfl ?_; intro A7 n7 c7 w7 hn7 hG; have H7 := Lib.hid hG; clear hG) | (go_at_call 61; refine (rnext_any A1 c1 wd iv1 w7 ((HI.out.1.iv.below H6.out.2.1).turn (Turn.of_grown H7.out.grown) (fun ad e hm => HI.out.1.io ad e (by simpa using hm))) HH.out.2.2.2).mono ?_; rintro e w8 ⟨g8, cc8, rfl, hO8, hB8⟩; have H8 := Lib.hid (And.intro hO8 hB8); clear hO8 hB8))
        have hnx := HI.out.1.next (m := n2) (HH.out.2.2.1 iv1 HI.out.2.2.2.2.2.2.1) (by have := HI.out.2.2.2.2.2.2.2; omega) HI.out.2.2.2.2.2.1 H6.out.2.1 H7.out H6.out.2.2.symm H8.out.1 H8.out.2 HI.out.2.2.1 HI.out.2.2.2.2.1 HI.out.2.2.2.1
        have HN := Lib.hid hnx
        clear hnx
        go_roundw
        case rel => exact ⟨_, _, _, _, _, _, _, _, _, _, _, rfl, rfl, rfl, HN.out⟩
        case measure => have := HI.out.2.2.2.2.1; have := HI.out.2.2.2.2.2.1; have := HI.out.2.2.2.2.2.2.2; simp [sliceLen]; omega
    · obtain rfl : n2 = 0 := by omega
      have hlti : ¬ ((0 : Nat) : Int) > 0 := by omega
      have ht := hI.tot
      obtain rfl : b2 = [] := List.length_eq_zero_iff.1 hI.b.1.symm
      simp only [cnt1, List.append_nil] at ht
      have HI := Lib.hid (And.intro hI ht)
      clear hI ht hlt
      go_wp2_with fail
      go_ret
      exact ⟨A3, n3, c3, rfl, by rw [← HI.out.2]; exact HI.out.1.out, HI.out.1.old⟩
end Go.Proofs.Ytiocmebcbhbcmaa
namespace Go.Proofs.Ytiocmebcbhbcmaa
set_option maxRecDepth 100000
open Go.RowKit

def cmG (E : List UInt8 → List UInt8) : Nat → List UInt8 → List UInt8 → List UInt8
  | 0, out, m => xorL out m
  | f + 1, out, m => if m.length ≤ 16 then xorL out m else cmG E f (E (xorL out m)) (m.drop 16)
def cmOdd (b : List UInt8) : Prop := b.length = 0 ∨ 0 < b.length % 16
instance (b : List UInt8) : Decidable (cmOdd b) := by unfold cmOdd; infer_instance
def cmK (E : List UInt8 → List UInt8) (b : List UInt8) : List UInt8 := if cmOdd b then dblL (dblL (E (zs 16))) else dblL (E (zs 16))
def cmM (b : List UInt8) : List UInt8 := if cmOdd b then (b ++ [128]) ++ zs (padM (b ++ [128]).length) else b
def cmacF (E : List UInt8 → List UInt8) (b : List UInt8) : List UInt8 := E (xorL (cmG E (cmM b).length (zs 16) (cmM b)) (cmK E b))
theorem cmM_len (b : List UInt8) : 16 ≤ (cmM b).length ∧ (cmM b).length % 16 = 0 := by
  unfold cmM
  split
  · rw [List.length_append, zs_len]
    have : (b ++ [128]).length = b.length + 1 := by simp
    rw [this]
    unfold padM
    omega
  · rename_i h
    unfold cmOdd at h
    omega
theorem cmac_no (A C : Option Addr) (m c n cb : Nat) (w : World) (h : m ≠ 16 ∧ m ≠ 24 ∧ m ≠ 32) :
    Calls Try.prog 22 #[.slice A m c, .slice C n cb] w fun e w' => e = .returned (.slice none 0 0) ∧ w' = w := by
  have hc := new_no A m c w h
  clear h
  go_enter Try.func22, Try.ntmps22
  go_wp2_with fail
  refine hc.mono ?_
  rintro e w1 ⟨rfl, hw⟩
  subst hw
  go_wp2_with fail
  go_ret
  exact ⟨rfl, rfl⟩
set_option maxHeartbeats 4000000 in
theorem cmac_any (A C : Option Addr) (mk ck n cb : Nat) (k b : List UInt8) (w : World) (hk : Rd w A mk ck k) (hb : Rd w C n cb b) (hko : keyOk k) (hn : n ≤ 90000) :
    Calls Try.prog 22 #[.slice A mk ck, .slice C n cb] w fun e w' => ∃ g, e = .returned (.slice (some ⟨g, 0, none⟩) 16 16) ∧ Rd w' (some ⟨g, 0, none⟩) 16 16 (cmacF (encL (rks k) ((rks k).length / 16)) b) ∧ Old w w' := by
  have hcall := new_any A mk ck k w hk hko
  obtain ⟨TG, hTG⟩ : ∃ T, cmacF (encL (rks k) ((rks k).length / 16)) b = T := ⟨_, rfl⟩
  rw [hTG]
  have HH := Lib.hid (And.intro hcall (And.intro hb (And.intro hb.1 hTG)))
  clear hcall hk hb hTG
  go_enter Try.func22, Try.ntmps22
  go_wp2_with fail
  refine HH.out.1.mono ?_
  rintro e w1 ⟨c, kb, R, cq, rfl, hC, hB⟩
  have hR : (rks k).length / 16 = R := by have : (rks k).length = 16 * R := hC.2.2.2.2.2.1; omega
  have hTG := HH.out.2.2.2
  rw [hR] at hTG
  have hC0 : Cip w1 0 c (rks k) kb R cq := ⟨hC.1, Nat.zero_le _, Nat.zero_le _, hC.2.2.2⟩
  have hEl : ∀ l : List UInt8, l.length = 16 → (encL (rks k) R l).length = 16 := fun l hl => enc_ne _ R l hl hC.2.2.2.2.2.1
  obtain ⟨E, hE⟩ : ∃ E, encL (rks k) R = E := ⟨_, rfl⟩
  have henc : ∀ (W : World) (A' : Option Addr) (ca : Nat) (l : List UInt8), Old w1 W → Rd W A' 16 ca l → Calls Try.prog 47 #[.pointer (some ⟨c, 0, none⟩), .slice A' 16 ca] W fun e w' => ∃ sb : Nat, e = .returned (.slice (some ⟨sb, 0, none⟩) 16 16) ∧ Rd w' (some ⟨sb, 0, none⟩) 16 16 (E l) ∧ Old W w' := fun W A' ca l hO hr => by
    refine (enc_any 0 c (rks k) kb R cq A' ca l W (hC0.below hO) hr).mono ?_
    rintro e w' ⟨sb, rfl, _, hS, hb⟩
    exact ⟨sb, rfl, by rw [← hE]; exact hS.rd, hb⟩
  rw [hE] at hEl hTG
  have hmk := Try.prog_make 16 (by omega) w1
  obtain ⟨wm, hwm⟩ : ∃ wm, w1.alloc (.cells (madeCells #[.int .u8 0] 16) 5) = wm := ⟨_, rfl⟩
  have hOm : Own wm w1.heap.size (.slice (some ⟨w1.heap.size, 0, none⟩) 16 16) (zs 16) := by rw [← hwm]; exact Own.made w1 16 (by unfold maxLen; omega)
  have hBm : Old w1 wm := by rw [← hwm]; exact (Old.refl _).alloc _
  rw [hwm, show ((16 : Nat) : Int) = 16 from rfl] at hmk
  have H1 := Lib.hid (And.intro henc (And.intro hEl (And.intro hB (And.intro hOm (And.intro hBm hTG)))))
  clear hC hC0 henc hEl hE hR hB hko hOm hBm hTG hwm
  go_upto_region 5 with (first | (go_at_call 47; refine (H1.out.1 wm _ _ _ H1.out.2.2.2.2.1 H1.out.2.2.2.1.rd).mono ?_; rintro e we ⟨ge, rfl, hRe, hBe⟩; have HE := Lib.hid (And.intro hRe hBe); clear hRe hBe) | (go_at_call 46; refine (double_any _ _ _ we HE.out.1).mono ?_; rintro e wk ⟨rfl, hOk, hBk⟩; have HK := Lib.hid (And.intro hOk.rd ((H1.out.2.2.2.2.1.trans HE.out.2).trans hBk)); clear hOk hBk))
  clear hmk
  go_wp2_with fail
  refine (clone_own C n cb b wk ((HH.out.2.1.below H1.out.2.2.1).below HK.out.2) (by omega)).mono ?_
  rintro e w3 ⟨A3, n3, c3, rfl, ho3, hB3⟩
  have B3 := Lib.hid hB3.size
  have hn3 : n3 = b.length := ho3.len
  have hn3b : n3 ≤ 90000 := by have := HH.out.2.2.1; omega
  have H3 := Lib.hid (And.intro ho3 (And.intro (HK.out.2.trans hB3) (And.intro (HK.out.1.below hB3) hn3)))
  clear ho3 hB3 hn3
  go_upto_region 6 with fail
  go_cut [26] (fun v wx => v = .bool (decide (cmOdd b)) ∧ w3 = wx)
  case first =>
    have hn3 := H3.out.2.2.2
    by_cases h0 : n3 = 0
    · have hd : decide (cmOdd b) = true := decide_eq_true (.inl (by omega))
      have HD := Lib.hid hd
      subst h0
      clear hn3 hd
      go_wp2_with fail
      go_meet
      case rel => exact ⟨by rw [HD.out], rfl⟩
    · have hb0 : ((n3 : Int) == 0) = false := by simp; omega
      have hi0 : ¬ (n3 : Int) = 0 := by omega
      by_cases h16 : 0 < n3 % 16
      · have hd : decide (cmOdd b) = true := decide_eq_true (.inr (by omega))
        have hg : (n3 : Int) % 16 > 0 := by omega
        have hgd : decide ((n3 : Int) % 16 > 0) = true := decide_eq_true hg
        have HD := Lib.hid hd
        clear hn3 hd h0 h16
        go_wp2_with fail
        go_meet
        case rel => exact ⟨by rw [HD.out], rfl⟩
      · have hd : decide (cmOdd b) = false := decide_eq_false (fun h => by unfold cmOdd at h; omega)
        have hg : ¬ (n3 : Int) % 16 > 0 := by omega
        have hgd : decide ((n3 : Int) % 16 > 0) = false := decide_eq_false hg
        have HD := Lib.hid hd
        clear hn3 hd h0 h16
        go_wp2_with fail
        go_meet
        case rel => exact ⟨by rw [HD.out], rfl⟩
  case rest =>
    obtain ⟨rfl, rfl⟩ := hcut
    obtain ⟨od, hod⟩ : ∃ od, decide (cmOdd b) = od := ⟨_, rfl⟩
    rw [hod]
    have HOd := Lib.hid hod
    clear hod
    go_upto_if 26 with fail
    go_cut [1, 6] from 7 to 52 (fun vb vk wx => ∃ (A4 : Option Addr) (n4 c4 : Nat) (gk : Nat), vb = .slice A4 n4 c4 ∧ vk = .slice (some ⟨gk, 0, none⟩) 16 16 ∧ Rd wx A4 n4 c4 (cmM b) ∧ Rd wx (some ⟨gk, 0, none⟩) 16 16 (cmK E b) ∧ Old w1 wx)
    case first =>
      cases od with
      | true =>
        have hodd : cmOdd b := of_decide_eq_true HOd.out
        have hM : cmM b = (b ++ [128]) ++ zs (padM (b ++ [128]).length) := by unfold cmM; rw [if_pos hodd]
        have hK : cmK E b = dblL (dblL (E (zs 16))) := by unfold cmK; rw [if_pos hodd]
        have HM := Lib.hid (And.intro hM hK)
        clear hodd hM hK
        go_wp2_with (first | (go_at_call 46; refine (double_any _ _ _ _ H3.out.2.2.1).mono ?_; rintro e w5 ⟨rfl, hO5, hB5⟩; have H5 := Lib.hid (And.intro hO5.rd hB5); clear hO5 hB5) | (at_builtin; refine wp_app_lit (.tmp 29) (.tmp 30) wk.heap.size (.slice A3 n3 c3) b (H3.out.1.below H5.out.2) (Nat.le_trans B3.out H5.out.2.size) [128] (by have := H3.out.2.2.2; omega) (by simp) rfl rfl rfl rfl rfl rfl ?_; intro A6 n6 c6 w6 hn6 hG; have H6 := Lib.hid hG; clear hG) | (go_at_call 48; refine (filled_any A6 n6 c6 _ w6 H6.out.own.rd (by simp; have := H3.out.2.2.2; omega)).mono ?_; rintro e w7 ⟨A7, n7, c7, rfl, ho7, hB7⟩; have H7 := Lib.hid (And.intro ho7 hB7); clear ho7 hB7))
        go_meet
        case rel =>
          have hk6 : Rd w6 (some ⟨w3.heap.size, 0, none⟩) 16 16 (dblL (dblL (E (zs 16)))) := ((H5.out.1.below ((Old.refl _).alloc _)).turn (Turn.of_grown H6.out.grown) (fun ad e hm => by
            cases e
            have := (H3.out.1.lt (by simpa using hm)).2
            omega))
          have hw1k : w1.heap.size ≤ wk.heap.size := HK.out.2.size
          exact ⟨A7, n7, c7, _, rfl, rfl, by rw [HM.out.1]; exact H7.out.1.rd, by rw [HM.out.2]; exact hk6.below H7.out.2, (((H3.out.2.1.trans H5.out.2).alloc _).trans_below (H6.out.below.mono hw1k)).trans H7.out.2⟩
      | false =>
        have hodd : ¬ cmOdd b := of_decide_eq_false HOd.out
        have hM : cmM b = b := by unfold cmM; rw [if_neg hodd]
        have hK : cmK E b = dblL (E (zs 16)) := by unfold cmK; rw [if_neg hodd]
        have HM := Lib.hid (And.intro hM hK)
        clear hodd hM hK
        go_wp2_with fail
        go_meet
        case rel => exact ⟨A3, n3, c3, _, rfl, rfl, by rw [HM.out.1]; exact H3.out.1.rd, by rw [HM.out.2]; exact H3.out.2.2.1, H3.out.2.1⟩
    case rest =>
      obtain ⟨A4, n4, c4, gk, rfl, rfl, hM, hK, hO4⟩ := hcut
      have hmk := Try.prog_make 16 (by omega) wc
      obtain ⟨wn, hwn⟩ : ∃ wn, wc.alloc (.cells (madeCells #[.int .u8 0] 16) 5) = wn := ⟨_, rfl⟩
      have hOn : Own wn wc.heap.size (.slice (some ⟨wc.heap.size, 0, none⟩) 16 16) (zs 16) := by rw [← hwn]; exact Own.made wc 16 (by unfold maxLen; omega)
      have hBn : Old wc wn := by rw [← hwn]; exact (Old.refl _).alloc _
      rw [hwn, show ((16 : Nat) : Int) = 16 from rfl] at hmk
      have HN := Lib.hid (And.intro (hM.below hBn) (And.intro (hK.below hBn) (And.intro (hO4.trans hBn) hOn)))
      have hn4 : n4 ≤ 100000 := by
        have h1 := hM.1
        have h2 := HH.out.2.2.1
        rw [h1]
        unfold cmM
        split
        · have := padM_le (b ++ [128]).length
          simp only [List.length_append, zs_len, List.length_cons, List.length_nil] at this ⊢
          omega
        · omega
      clear hM hK hO4 hwn hOn hBn
      go_wp2_with fail
      clear hmk
      go_loopw [1, 7] (fun vb vo wr => ∃ (A5 : Option Addr) (n5 c5 : Nat) (m : List UInt8) (sb : Nat) (out : List UInt8) (f : Nat), vb = .slice A5 n5 c5 ∧ vo = .slice (some ⟨sb, 0, none⟩) 16 16 ∧ Rd wr A5 n5 c5 m ∧ Rd wr (some ⟨sb, 0, none⟩) 16 16 out ∧ Old wn wr ∧ 16 ≤ n5 ∧ n5 % 16 = 0 ∧ n5 ≤ 100000 ∧ m.length ≤ f ∧ cmG E f out m = cmG E (cmM b).length (zs 16) (cmM b)) (fun vb _ _ => sliceLen vb)
      case atStart => exact ⟨A4, n4, c4, cmM b, _, zs 16, (cmM b).length, rfl, rfl, HN.out.1, HN.out.2.2.2.rd, Old.refl _, by have := HN.out.1.1; have := (cmM_len b).1; omega, by have := HN.out.1.1; have := (cmM_len b).2; omega, hn4, Nat.le_refl _, rfl⟩
      case round =>
        obtain ⟨A5, n5, c5, m, sb, out, f, rfl, rfl, hm, ho, hO, h16, hmod, h1e5, hf, hg⟩ := hrel
        have hml := hm.1
        by_cases hlt : 16 < n5
        · have hlti : (n5 : Int) > 16 := by omega
          have hltd : decide ((n5 : Int) > 16) = true := decide_eq_true hlti
          obtain ⟨A6, n6, c6, hn6, hS6, hR6, _⟩ := hm.cut_ex2 (k := 16) (by omega)
          rw [show ((16 : Nat) : Int) = 16 from rfl] at hS6
          obtain ⟨f', rfl⟩ : ∃ f', f = f' + 1 := ⟨f - 1, by omega⟩
          have hstep : cmG E (f' + 1) out m = cmG E f' (E (xorL out m)) (m.drop 16) := by show (if m.length ≤ 16 then _ else _) = _; rw [if_neg (by omega)]
          rw [hstep] at hg
          have HR := Lib.hid (And.intro hm (And.intro ho (And.intro hO (And.intro hR6 (And.intro hg (And.intro hf (And.intro hml (And.intro hmod (And.intro hn6 h16)))))))))
          clear hm ho hO hR6 hg hf hml hstep hmod hn6 h16
          go_wp2_with (first | (go_at_call 49; refine (xored_any _ A5 16 16 n5 c5 out m wr HR.out.2.1 HR.out.1 HR.out.2.2.2.2.2.2.2.2.2 (by omega)).mono ?_; rintro e w5 ⟨rfl, hO5, hB5⟩; have H5 := Lib.hid (And.intro hO5.rd hB5); clear hO5 hB5) | (go_at_call 47; refine (H1.out.1 w5 _ _ _ ((HN.out.2.2.1.trans HR.out.2.2.1).trans H5.out.2) H5.out.1).mono ?_; rintro e w6 ⟨g6, rfl, hR, hB6⟩; have H6 := Lib.hid (And.intro hR hB6); clear hR hB6))
          go_roundw
          case rel => exact ⟨A6, n6, c6, m.drop 16, g6, E (xorL out m), f', rfl, rfl, (HR.out.2.2.2.1.below H5.out.2).below H6.out.2, H6.out.1, (HR.out.2.2.1.trans H5.out.2).trans H6.out.2, by have := HR.out.2.2.2.2.2.2.2.2.1; have := HR.out.2.2.2.2.2.2.2.1; omega, by have := HR.out.2.2.2.2.2.2.2.2.1; have := HR.out.2.2.2.2.2.2.2.1; omega, by have := HR.out.2.2.2.2.2.2.2.2.1; omega, by have := HR.out.2.2.2.2.2.1; rw [List.length_drop]; omega, HR.out.2.2.2.2.1⟩
          case measure => have := HR.out.2.2.2.2.2.2.2.2.1; simp [sliceLen]; omega
        · have hlti : ¬ (n5 : Int) > 16 := by omega
          have hltd : decide ((n5 : Int) > 16) = false := decide_eq_false hlti
          have hc : cmG E f out m = xorL out m := by
            cases f with
            | zero => rfl
            | succ f => show (if m.length ≤ 16 then _ else _) = _; rw [if_pos (by omega)]
          have h5 : 16 ≤ n5 := h16
          have HR := Lib.hid (And.intro hm (And.intro ho (And.intro hO (hc.symm.trans hg))))
          clear hm ho hO hg hf hml hc hmod
          go_wp2_with (first | (go_at_call 47; refine (H1.out.1 w6 _ _ _ (((HN.out.2.2.1.trans HR.out.2.2.1).trans H5.out.2).trans H6.out.2) H6.out.1).mono ?_; rintro e w7 ⟨g7, rfl, hR, hB7⟩; have H7 := Lib.hid (And.intro hR hB7); clear hR hB7) | (go_at_call 49; first | (refine (xored_any (some ⟨wr.heap.size, 0, none⟩) (some ⟨gk, 0, none⟩) 16 16 16 16 _ _ w5 H5.out.1 ((HN.out.2.1.below HR.out.2.2.1).below H5.out.2) (Nat.le_refl _) (by omega)).mono ?_; rintro e w6 ⟨rfl, hO6, hB6⟩; have H6 := Lib.hid (And.intro hO6.rd hB6); clear hO6 hB6) | (refine (xored_any _ A5 16 16 n5 c5 out m wr HR.out.2.1 HR.out.1 h5 (by omega)).mono ?_; rintro e w5 ⟨rfl, hO5, hB5⟩; have H5 := Lib.hid (And.intro hO5.rd hB5); clear hO5 hB5)))
          go_ret
          refine ⟨g7, rfl, ?_, Old.trans (Old.trans (Old.trans (Old.trans (Old.trans H1.out.2.2.1 HN.out.2.2.1) HR.out.2.2.1) H5.out.2) H6.out.2) H7.out.2⟩
          have h9 := H7.out.1
          rw [HR.out.2.2.2] at h9
          rw [← H1.out.2.2.2.2.2]
          exact h9
end Go.Proofs.Ytiocmebcbhbcmaa
