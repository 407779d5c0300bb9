/-
  Sessions: MayLogin, Login, Logout.
-/
import Derived.Test.YtnpncbpbeikcaaaSes6
namespace Go.Proofs.Ytnpncbpbeikcaaa
open Go.RowKit Go.Maps

def PT.ro (T : PT) (conn slot : Int) : Bool := T.l.any fun x => decide (x.c = conn ∧ x.s = slot) && !x.rw
def PT.mayW (T : PT) (conn slot user : Int) : Int :=
  if user ≠ 0 ∧ user ≠ 1 then 259 else if T.user conn slot = user then 256 else if T.user conn slot ≠ -1 then 260 else if user = 0 ∧ T.ro conn slot = true then 183 else if T.open_ conn slot = false then 179 else 0
theorem may_nil (a b c : Int) (w : World) : Calls Try.prog 25 #[.pointer none, .int .i64 a, .int .i64 b, .int .i64 c] w fun e w' => e = .returned (.int .i64 179) ∧ Below w.heap.size w w' := by
  have HB := Lib.hid ((Below.refl w.heap.size w).alloc (Nat.le_refl _) (.cells #[.int .i64 a, .int .i64 b] 56))
  go_enter Try.func25, Try.ntmps25
  go_wp2_with fail
  go_ret
  exact ⟨rfl, HB.out⟩
set_option maxRecDepth 100000 in
set_option maxHeartbeats 4000000 in
theorem may_any (B p : Nat) (S : List Nat) (T : PT) (conn slot user : Int) (w : World) (h : Tb w B p S T) (hc : wf64 conn) (hs : wf64 slot) :
    Calls Try.prog 25 #[.pointer (some ⟨p, 0, none⟩), .int .i64 conn, .int .i64 slot, .int .i64 user] w fun e w' => e = .returned (.int .i64 (T.mayW conn slot user)) ∧ Below w.heap.size w w' := by
  obtain ⟨X, hX⟩ : ∃ X, w.heap.size = X := ⟨_, rfl⟩
  obtain ⟨wA, hwA⟩ : ∃ wA, w.alloc (.cells #[.int .i64 conn, .int .i64 slot] 56) = wA := ⟨_, rfl⟩
  have bA : Blk wA X 56 #[.int .i64 conn, .int .i64 slot] := by rw [← hwA, ← hX]; exact Blk.new _ _ _
  have hbA : Below X w wA := by rw [← hwA, ← hX]; exact (Below.refl _ _).alloc (Nat.le_refl _) _
  have hTA : Tb wA B p S T := h.below (by rw [hX]; exact hbA)
  have hXA : X ≤ wA.heap.size := by have := hbA.size; omega
  have g0 := bA.cell 0
  have g1 := bA.cell 1
  simp only [List.getElem?_toArray, List.getElem?_cons_succ, List.getElem?_cons_zero] at g0 g1
  obtain ⟨u, hu⟩ : ∃ u, T.user conn slot = u := ⟨_, rfl⟩
  obtain ⟨ro, hro⟩ : ∃ ro, T.ro conn slot = ro := ⟨_, rfl⟩
  obtain ⟨op, hop⟩ : ∃ op, T.open_ conn slot = op := ⟨_, rfl⟩
  have hU : ∀ wq, Below wA.heap.size wA wq → Calls Try.prog 27 #[.pointer (some ⟨p, 0, none⟩), .agg #[.int .i64 conn, .int .i64 slot]] wq fun e w' => e = .returned (.int .i64 u) ∧ Below wq.heap.size wq w' := fun wq hq => by
    rw [← hu]; exact user_any B p S T conn slot wq (hTA.below hq) hc hs
  have hO : ∀ wq, Below wA.heap.size wA wq → Calls Try.prog 44 #[.pointer (some ⟨p, 0, none⟩), .agg #[.int .i64 conn, .int .i64 slot]] wq fun e w' => e = .returned (.bool op) ∧ Below wq.heap.size wq w' := fun wq hq => by
    rw [← hop]; exact open_any B p S T conn slot wq (hTA.below hq)
  obtain ⟨A, m, c, mb, hT, hS⟩ := hTA
  have hR : ∀ wq, Below wA.heap.size wA wq → Calls Try.prog 41 #[.slice A m c, .func (.func 43) #[] #[.pointer (some ⟨X, 0, none⟩)]] wq fun e w' => e = .returned (.bool ro) ∧ Below wq.heap.size wq w' := fun wq hq => by
    rw [← hro]
    exact contains_any A m c T.l _ _ _ wq (hT.row.rd.below hq) (by rw [hT.row.len]; exact hT.small) ⟨fun _ _ => by kernel_rfl, fun w' x hw' => mayLogin1_any _ conn slot x w' (bA.below (hq.trans (hw'.mono hq.size)))⟩
  have hcel : ∀ wq, Below wA.heap.size wA wq → wq.cell? ⟨p, 0, none⟩ = some (.slice A m c) ∧ wq.cell? ⟨X, 0, none⟩ = some (.int .i64 conn) ∧ wq.cell? ⟨X, 1, none⟩ = some (.int .i64 slot) := fun wq hq => ⟨(hT.below hq).cells.1, (bA.below hq).cell 0, (bA.below hq).cell 1⟩
  have hfin : ∀ wq, Below wA.heap.size wA wq → Below w.heap.size w wq := fun wq hq => by rw [hX]; exact hbA.trans (hq.mono hXA)
  have H := Lib.hid (And.intro hU (And.intro hO (And.intro hR (And.intro hcel hfin))))
  have HE := Lib.hid (And.intro hu (And.intro hro hop))
  clear hU hO hR hcel hfin bA hbA hT hS h hXA hu hro hop
  have f0 := (H.out.2.2.2.1 wA (Below.refl wA.heap.size wA)).1
  by_cases c1 : user ≠ 0 ∧ user ≠ 1
  · have d0 : (user != 0) = true := by simp [c1.1]
    have d1 : (user != 1) = true := by simp [c1.2]
    have e0 := c1.1
    have e1 := c1.2
    go_enter Try.func25, Try.ntmps25
    go_wp2_with fail
    try rw [hwA]
    go_ret
    exact ⟨by rw [show T.mayW conn slot user = 259 by unfold PT.mayW; rw [if_pos c1]]; rfl, H.out.2.2.2.2 _ (Below.refl wA.heap.size wA)⟩
  have c1' : user = 0 ∨ user = 1 := by omega
  rcases c1' with rfl | rfl
  · by_cases c2 : u = 0
    · subst c2
      go_enter Try.func25, Try.ntmps25
      go_wp2_with fail
      try rw [hwA]
      refine (H.out.1 wA (Below.refl wA.heap.size wA)).mono ?_
      rintro e w1 ⟨rfl, hb1⟩
      have HB1 := Lib.hid ((Below.refl wA.heap.size wA).trans (hb1.mono (Below.refl wA.heap.size wA).size))
      clear hb1
      clear g0 g1
      obtain ⟨f1, g0, g1⟩ := H.out.2.2.2.1 w1 HB1.out
      go_wp2_with fail
      go_ret
      exact ⟨by rw [show T.mayW conn slot 0 = 256 by unfold PT.mayW; rw [if_neg c1, if_pos HE.out.1]]; rfl, H.out.2.2.2.2 _ HB1.out⟩
    have d2 : decide (u = 0) = false := decide_eq_false c2
    by_cases c3 : u = -1
    · subst c3
      cases ro with
      | true =>
        go_enter Try.func25, Try.ntmps25
        go_wp2_with fail
        try rw [hwA]
        refine (H.out.1 wA (Below.refl wA.heap.size wA)).mono ?_
        rintro e w1 ⟨rfl, hb1⟩
        have HB1 := Lib.hid ((Below.refl wA.heap.size wA).trans (hb1.mono (Below.refl wA.heap.size wA).size))
        clear hb1
        clear g0 g1
        obtain ⟨f1, g0, g1⟩ := H.out.2.2.2.1 w1 HB1.out
        go_wp2_with fail
        refine (H.out.1 w1 HB1.out).mono ?_
        rintro e w2 ⟨rfl, hb2⟩
        have HB2 := Lib.hid (HB1.out.trans (hb2.mono HB1.out.size))
        clear hb2
        clear f1 g0 g1
        obtain ⟨f2, g0, g1⟩ := H.out.2.2.2.1 w2 HB2.out
        go_wp2_with fail
        refine (H.out.2.2.1 w2 HB2.out).mono ?_
        rintro e w3 ⟨rfl, hb3⟩
        have HB3 := Lib.hid (HB2.out.trans (hb3.mono HB2.out.size))
        clear hb3
        clear f2 g0 g1
        obtain ⟨f3, g0, g1⟩ := H.out.2.2.2.1 w3 HB3.out
        go_wp2_with fail
        go_ret
        exact ⟨by rw [show T.mayW conn slot 0 = 183 by unfold PT.mayW; rw [if_neg c1, if_neg (by rw [HE.out.1]; exact c2), if_neg (by rw [HE.out.1]; simp), if_pos ⟨rfl, HE.out.2.1⟩]]; rfl, H.out.2.2.2.2 _ HB3.out⟩
      | false =>
        cases op with
        | true =>
          go_enter Try.func25, Try.ntmps25
          go_wp2_with fail
          try rw [hwA]
          refine (H.out.1 wA (Below.refl wA.heap.size wA)).mono ?_
          rintro e w1 ⟨rfl, hb1⟩
          have HB1 := Lib.hid ((Below.refl wA.heap.size wA).trans (hb1.mono (Below.refl wA.heap.size wA).size))
          clear hb1
          clear g0 g1
          obtain ⟨f1, g0, g1⟩ := H.out.2.2.2.1 w1 HB1.out
          go_wp2_with fail
          refine (H.out.1 w1 HB1.out).mono ?_
          rintro e w2 ⟨rfl, hb2⟩
          have HB2 := Lib.hid (HB1.out.trans (hb2.mono HB1.out.size))
          clear hb2
          clear f1 g0 g1
          obtain ⟨f2, g0, g1⟩ := H.out.2.2.2.1 w2 HB2.out
          go_wp2_with fail
          refine (H.out.2.2.1 w2 HB2.out).mono ?_
          rintro e w3 ⟨rfl, hb3⟩
          have HB3 := Lib.hid (HB2.out.trans (hb3.mono HB2.out.size))
          clear hb3
          clear f2 g0 g1
          obtain ⟨f3, g0, g1⟩ := H.out.2.2.2.1 w3 HB3.out
          go_wp2_with fail
          refine (H.out.2.1 w3 HB3.out).mono ?_
          rintro e w4 ⟨rfl, hb4⟩
          have HB4 := Lib.hid (HB3.out.trans (hb4.mono HB3.out.size))
          clear hb4
          clear f3 g0 g1
          obtain ⟨f4, g0, g1⟩ := H.out.2.2.2.1 w4 HB4.out
          go_wp2_with fail
          go_ret
          exact ⟨by rw [show T.mayW conn slot 0 = 0 by unfold PT.mayW; rw [if_neg c1, if_neg (by rw [HE.out.1]; exact c2), if_neg (by rw [HE.out.1]; simp), if_neg (by rw [HE.out.2.1]; simp), if_neg (by rw [HE.out.2.2]; simp)]]; rfl, H.out.2.2.2.2 _ HB4.out⟩
        | false =>
          go_enter Try.func25, Try.ntmps25
          go_wp2_with fail
          try rw [hwA]
          refine (H.out.1 wA (Below.refl wA.heap.size wA)).mono ?_
          rintro e w1 ⟨rfl, hb1⟩
          have HB1 := Lib.hid ((Below.refl wA.heap.size wA).trans (hb1.mono (Below.refl wA.heap.size wA).size))
          clear hb1
          clear g0 g1
          obtain ⟨f1, g0, g1⟩ := H.out.2.2.2.1 w1 HB1.out
          go_wp2_with fail
          refine (H.out.1 w1 HB1.out).mono ?_
          rintro e w2 ⟨rfl, hb2⟩
          have HB2 := Lib.hid (HB1.out.trans (hb2.mono HB1.out.size))
          clear hb2
          clear f1 g0 g1
          obtain ⟨f2, g0, g1⟩ := H.out.2.2.2.1 w2 HB2.out
          go_wp2_with fail
          refine (H.out.2.2.1 w2 HB2.out).mono ?_
          rintro e w3 ⟨rfl, hb3⟩
          have HB3 := Lib.hid (HB2.out.trans (hb3.mono HB2.out.size))
          clear hb3
          clear f2 g0 g1
          obtain ⟨f3, g0, g1⟩ := H.out.2.2.2.1 w3 HB3.out
          go_wp2_with fail
          refine (H.out.2.1 w3 HB3.out).mono ?_
          rintro e w4 ⟨rfl, hb4⟩
          have HB4 := Lib.hid (HB3.out.trans (hb4.mono HB3.out.size))
          clear hb4
          clear f3 g0 g1
          obtain ⟨f4, g0, g1⟩ := H.out.2.2.2.1 w4 HB4.out
          go_wp2_with fail
          go_ret
          exact ⟨by rw [show T.mayW conn slot 0 = 179 by unfold PT.mayW; rw [if_neg c1, if_neg (by rw [HE.out.1]; exact c2), if_neg (by rw [HE.out.1]; simp), if_neg (by rw [HE.out.2.1]; simp), if_pos HE.out.2.2]]; rfl, H.out.2.2.2.2 _ HB4.out⟩
    have d3 : (u == -1) = false := by simp [c3]
    have d4 : (u != -1) = true := by simp [c3]
    go_enter Try.func25, Try.ntmps25
    go_wp2_with fail
    try rw [hwA]
    refine (H.out.1 wA (Below.refl wA.heap.size wA)).mono ?_
    rintro e w1 ⟨rfl, hb1⟩
    have HB1 := Lib.hid ((Below.refl wA.heap.size wA).trans (hb1.mono (Below.refl wA.heap.size wA).size))
    clear hb1
    clear g0 g1
    obtain ⟨f1, g0, g1⟩ := H.out.2.2.2.1 w1 HB1.out
    go_wp2_with fail
    refine (H.out.1 w1 HB1.out).mono ?_
    rintro e w2 ⟨rfl, hb2⟩
    have HB2 := Lib.hid (HB1.out.trans (hb2.mono HB1.out.size))
    clear hb2
    clear f1 g0 g1
    obtain ⟨f2, g0, g1⟩ := H.out.2.2.2.1 w2 HB2.out
    go_wp2_with fail
    go_ret
    exact ⟨by rw [show T.mayW conn slot 0 = 260 by unfold PT.mayW; rw [if_neg c1, if_neg (by rw [HE.out.1]; exact c2), if_pos (by rw [HE.out.1]; exact c3)]]; rfl, H.out.2.2.2.2 _ HB2.out⟩
  · by_cases c2 : u = 1
    · subst c2
      go_enter Try.func25, Try.ntmps25
      go_wp2_with fail
      try rw [hwA]
      refine (H.out.1 wA (Below.refl wA.heap.size wA)).mono ?_
      rintro e w1 ⟨rfl, hb1⟩
      have HB1 := Lib.hid ((Below.refl wA.heap.size wA).trans (hb1.mono (Below.refl wA.heap.size wA).size))
      clear hb1
      clear g0 g1
      obtain ⟨f1, g0, g1⟩ := H.out.2.2.2.1 w1 HB1.out
      go_wp2_with fail
      go_ret
      exact ⟨by rw [show T.mayW conn slot 1 = 256 by unfold PT.mayW; rw [if_neg c1, if_pos HE.out.1]]; rfl, H.out.2.2.2.2 _ HB1.out⟩
    have d2 : decide (u = 1) = false := decide_eq_false c2
    by_cases c3 : u = -1
    · subst c3
      cases op with
      | true =>
        go_enter Try.func25, Try.ntmps25
        go_wp2_with fail
        try rw [hwA]
        refine (H.out.1 wA (Below.refl wA.heap.size wA)).mono ?_
        rintro e w1 ⟨rfl, hb1⟩
        have HB1 := Lib.hid ((Below.refl wA.heap.size wA).trans (hb1.mono (Below.refl wA.heap.size wA).size))
        clear hb1
        clear g0 g1
        obtain ⟨f1, g0, g1⟩ := H.out.2.2.2.1 w1 HB1.out
        go_wp2_with fail
        refine (H.out.1 w1 HB1.out).mono ?_
        rintro e w2 ⟨rfl, hb2⟩
        have HB2 := Lib.hid (HB1.out.trans (hb2.mono HB1.out.size))
        clear hb2
        clear f1 g0 g1
        obtain ⟨f2, g0, g1⟩ := H.out.2.2.2.1 w2 HB2.out
        go_wp2_with fail
        refine (H.out.2.1 w2 HB2.out).mono ?_
        rintro e w3 ⟨rfl, hb3⟩
        have HB3 := Lib.hid (HB2.out.trans (hb3.mono HB2.out.size))
        clear hb3
        clear f2 g0 g1
        obtain ⟨f3, g0, g1⟩ := H.out.2.2.2.1 w3 HB3.out
        go_wp2_with fail
        go_ret
        exact ⟨by rw [show T.mayW conn slot 1 = 0 by unfold PT.mayW; rw [if_neg c1, if_neg (by rw [HE.out.1]; exact c2), if_neg (by rw [HE.out.1]; simp), if_neg (by simp), if_neg (by rw [HE.out.2.2]; simp)]]; rfl, H.out.2.2.2.2 _ HB3.out⟩
      | false =>
        go_enter Try.func25, Try.ntmps25
        go_wp2_with fail
        try rw [hwA]
        refine (H.out.1 wA (Below.refl wA.heap.size wA)).mono ?_
        rintro e w1 ⟨rfl, hb1⟩
        have HB1 := Lib.hid ((Below.refl wA.heap.size wA).trans (hb1.mono (Below.refl wA.heap.size wA).size))
        clear hb1
        clear g0 g1
        obtain ⟨f1, g0, g1⟩ := H.out.2.2.2.1 w1 HB1.out
        go_wp2_with fail
        refine (H.out.1 w1 HB1.out).mono ?_
        rintro e w2 ⟨rfl, hb2⟩
        have HB2 := Lib.hid (HB1.out.trans (hb2.mono HB1.out.size))
        clear hb2
        clear f1 g0 g1
        obtain ⟨f2, g0, g1⟩ := H.out.2.2.2.1 w2 HB2.out
        go_wp2_with fail
        refine (H.out.2.1 w2 HB2.out).mono ?_
        rintro e w3 ⟨rfl, hb3⟩
        have HB3 := Lib.hid (HB2.out.trans (hb3.mono HB2.out.size))
        clear hb3
        clear f2 g0 g1
        obtain ⟨f3, g0, g1⟩ := H.out.2.2.2.1 w3 HB3.out
        go_wp2_with fail
        go_ret
        exact ⟨by rw [show T.mayW conn slot 1 = 179 by unfold PT.mayW; rw [if_neg c1, if_neg (by rw [HE.out.1]; exact c2), if_neg (by rw [HE.out.1]; simp), if_neg (by simp), if_pos HE.out.2.2]]; rfl, H.out.2.2.2.2 _ HB3.out⟩
    have d3 : (u == -1) = false := by simp [c3]
    have d4 : (u != -1) = true := by simp [c3]
    go_enter Try.func25, Try.ntmps25
    go_wp2_with fail
    try rw [hwA]
    refine (H.out.1 wA (Below.refl wA.heap.size wA)).mono ?_
    rintro e w1 ⟨rfl, hb1⟩
    have HB1 := Lib.hid ((Below.refl wA.heap.size wA).trans (hb1.mono (Below.refl wA.heap.size wA).size))
    clear hb1
    clear g0 g1
    obtain ⟨f1, g0, g1⟩ := H.out.2.2.2.1 w1 HB1.out
    go_wp2_with fail
    refine (H.out.1 w1 HB1.out).mono ?_
    rintro e w2 ⟨rfl, hb2⟩
    have HB2 := Lib.hid (HB1.out.trans (hb2.mono HB1.out.size))
    clear hb2
    clear f1 g0 g1
    obtain ⟨f2, g0, g1⟩ := H.out.2.2.2.1 w2 HB2.out
    go_wp2_with fail
    go_ret
    exact ⟨by rw [show T.mayW conn slot 1 = 260 by unfold PT.mayW; rw [if_neg c1, if_neg (by rw [HE.out.1]; exact c2), if_pos (by rw [HE.out.1]; exact c3)]]; rfl, H.out.2.2.2.2 _ HB2.out⟩
end Go.Proofs.Ytnpncbpbeikcaaa
