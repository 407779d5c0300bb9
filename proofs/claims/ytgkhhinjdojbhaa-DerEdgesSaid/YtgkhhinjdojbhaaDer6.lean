/-
  DER: the reference's count and May.
-/
import Derived.Test.YtgkhhinjdojbhaaDer5
namespace Go.Proofs.Ytgkhhinjdojbhaa
open Go.RowKit

def Nd.cnt (n : Nd) (d : Nat) : Int := if n.ok d && decide (n.size ≤ 1024) then (n.size : Int) else -1
theorem sizeAll_take {ks : List Nd} {j : Nat} {k : Nd} (h : ks[j]? = some k) : sizeAll (ks.take (j + 1)) = sizeAll (ks.take j) + k.size ∧ sizeAll (ks.take (j + 1)) ≤ sizeAll ks := by
  induction ks generalizing j with
  | nil => simp at h
  | cons x l ih =>
    cases j with
    | zero => simp at h; subst h; simp [sizeAll]
    | succ j =>
      have := ih (by simpa using h)
      simp only [List.take_succ_cons, sizeAll]
      omega
theorem okAll_take {ks : List Nd} {d j : Nat} {k : Nd} (h : ks[j]? = some k) : okAll d (ks.take (j + 1)) = (okAll d (ks.take j) && k.ok d) := by
  induction ks generalizing j with
  | nil => simp at h
  | cons x l ih =>
    cases j with
    | zero => simp at h; subst h; simp [okAll]
    | succ j =>
      have := ih (by simpa using h)
      simp only [List.take_succ_cons, okAll, this, Bool.and_assoc]
theorem okAll_of {ks : List Nd} {d j : Nat} {k : Nd} (h : ks[j]? = some k) (hk : k.ok d = false) : okAll d ks = false := by
  cases hh : okAll d ks with
  | false => rfl
  | true => rw [okAll_mem hh (List.mem_of_getElem? h)] at hk; cases hk
set_option maxRecDepth 100000 in
set_option maxHeartbeats 8000000 in
theorem count_any (P : Nat → Prop) (Z : NF → Prop) : ∀ (n : Nd) (f : NF) (d : Nat) (depth : Int) (w : World), NdR P Z w f n → (∀ b, P b → b < w.heap.size) → d ≤ 16 → depth = 17 - (d : Int) →
    Calls Try.prog 40 #[f.val, .int .i64 depth] w fun e w' => e = .returned (.int .i64 (n.cnt d)) ∧ Below w.heap.size w w' := by
  intro n
  refine Nd.rec' (P := fun n => ∀ (f : NF) (d : Nat) (depth : Int) (w : World), NdR P Z w f n → (∀ b, P b → b < w.heap.size) → d ≤ 16 → depth = 17 - (d : Int) → Calls Try.prog 40 #[f.val, .int .i64 depth] w fun e w' => e = .returned (.int .i64 (n.cnt d)) ∧ Below w.heap.size w w') ?_ n
  clear n
  intro tag bs ks ih f d depth w hN hPl hd16 hdep
  obtain ⟨ans, hans⟩ : ∃ ans, (Nd.mk tag bs ks).cnt d = ans := ⟨_, rfl⟩
  rw [hans]
  unfold Nd.cnt at hans
  cases hN with
  | mk _ _ fs _ hb hbP hk hkm hkP hZ hl hkids =>
  obtain ⟨tag, A1, m1, c1, A2, m2, c2⟩ := f
  simp only at *
  have hm63 : (m2 : Int) ≤ 9223372036854775807 := by unfold maxLen at hkm; omega
  obtain ⟨X, hX⟩ : ∃ X, w.heap.size = X := ⟨_, rfl⟩
  obtain ⟨wA, hwA⟩ : ∃ wA, w.alloc (.cells #[.int .i64 tag, .slice A1 m1 c1, .slice A2 m2 c2] 25) = wA := ⟨_, rfl⟩
  have bA : Blk wA X 25 #[.int .i64 tag, .slice A1 m1 c1, .slice A2 m2 c2] := by rw [← hwA, ← hX]; exact Blk.new _ _ _
  have hbA : Below w.heap.size w wA := by rw [← hwA]; exact (Below.refl _ _).alloc (Nat.le_refl _) _
  obtain ⟨g0, g1, g2⟩ : wA.cell? ⟨X, 0, none⟩ = some (.int .i64 tag) ∧ wA.cell? ⟨X, 1, none⟩ = some (.slice A1 m1 c1) ∧ wA.cell? ⟨X, 2, none⟩ = some (.slice A2 m2 c2) := by rw [bA.cell, bA.cell, bA.cell]; exact ⟨rfl, rfl, rfl⟩
  have hbl : bs.length = m1 := by have := hb.1; omega
  have hkl : ks.length = m2 := by have := hk.1; omega
  have hKs : ∀ (j : Nat) (g : NF) (k : Nd), fs[j]? = some g → ks[j]? = some k → NdR P Z wA g k := fun j g k hg hk => (hkids j g k hg hk).bel hbA hPl
  have HA := Lib.hid (And.intro (hb.below hbA) (And.intro (hk.below hbA) (And.intro hKs (And.intro bA hbA))))
  have HI := Lib.hid ih
  have HP := Lib.hid (And.intro hPl hl)
  have HD := Lib.hid (And.intro hdep hd16)
  clear hdep hd16 hb hbP hk hkP hZ hkids hPl ih hl bA hbA hKs
  simp only [NF.val]
  go_enter Try.func40, Try.ntmps40
  cases d with
  | zero =>
    have hok : (Nd.mk tag bs ks).ok 0 = false := by rw [Nd.ok]
    rw [hok] at hans
    simp at hans
    subst hans
    have t2 : (16 : Int) < depth := by have := HD.out.1; omega
    have t2d : decide ((16 : Int) < depth) = true := decide_eq_true t2
    go_wp2_with fail
    try rw [hwA]
    try rw [hX]
    go_wp2_with fail
    go_wp2_with fail
    go_ret
    exact ⟨rfl, by first | exact HA.out.2.2.2.2 | (rw [← hX]; exact HA.out.2.2.2.2)⟩
  | succ d =>
    have t2 : ¬ (16 : Int) < depth := by have := HD.out.1; omega
    have t2d : decide ((16 : Int) < depth) = false := decide_eq_false t2
    have hd0 : 0 ≤ depth := by have := HD.out.1; have := HD.out.2; omega
    by_cases t3 : tag = 48
    · subst t3
      rw [Nd.ok, if_pos rfl] at hans
      by_cases t4 : 0 < bs.length
      · rw [decide_eq_false (show ¬ bs.length = 0 by omega)] at hans
        simp at hans
        subst hans
        have t4i : (0 : Int) < m1 := by omega
        have t4d : decide ((0 : Int) < (m1 : Int)) = true := decide_eq_true t4i
        go_wp2_with fail
        try rw [hwA]
        try rw [hX]
        go_wp2_with fail
        go_wp2_with fail
        go_ret
        exact ⟨rfl, by first | exact HA.out.2.2.2.2 | (rw [← hX]; exact HA.out.2.2.2.2)⟩
      rw [decide_eq_true (show bs.length = 0 by omega), Bool.true_and, Nd.size] at hans
      have t4i : ¬ (0 : Int) < m1 := by omega
      have t4d : decide ((0 : Int) < (m1 : Int)) = false := decide_eq_false t4i
      have HANS := Lib.hid hans
      clear hans
      go_wp2_with fail
      try rw [hwA]
      try rw [hX]
      go_wp2_with fail
      go_wp2_with fail
      go_loopw [5, 6] (fun cc kk wr => ∃ j : Nat, j ≤ m2 ∧ kk = .int .i64 (j : Int) ∧ cc = .int .i64 ((1 + sizeAll (ks.take j) : Nat) : Int) ∧ 1 + sizeAll (ks.take j) ≤ 1024 ∧ okAll d (ks.take j) = true ∧ Below wA.heap.size wA wr) (fun _ kk _ => m2 - (intOf kk).toNat)
      case atStart => exact ⟨0, by omega, rfl, rfl, by simp [sizeAll], rfl, Below.refl _ _⟩
      case round =>
        obtain ⟨j, hj, rfl, rfl, hsz, hok, hB⟩ := hrel
        obtain ⟨g0, g1, g2⟩ : wr.cell? ⟨X, 0, none⟩ = some (.int .i64 48) ∧ wr.cell? ⟨X, 1, none⟩ = some (.slice A1 m1 c1) ∧ wr.cell? ⟨X, 2, none⟩ = some (.slice A2 m2 c2) := by rw [(HA.out.2.2.2.1.below hB).cell, (HA.out.2.2.2.1.below hB).cell, (HA.out.2.2.2.1.below hB).cell]; exact ⟨rfl, rfl, rfl⟩
        by_cases hlt : j < m2
        · have hlti : (j : Int) < m2 := by omega
          have hltd : decide ((j : Int) < (m2 : Int)) = true := decide_eq_true hlti
          have hj0 : ¬ ((j : Int) < 0) := by omega
          obtain ⟨k, hk⟩ : ∃ k, ks[j]? = some k := ⟨_, List.getElem?_eq_getElem (by omega)⟩
          obtain ⟨fk, hfk⟩ : ∃ fk, fs[j]? = some fk := ⟨_, List.getElem?_eq_getElem (by have := HP.out.2; omega)⟩
          obtain ⟨g, off, hAe, z0, z1, z2⟩ := node_at (HA.out.2.1.below hB) hfk
          have hPA : ∀ b, P b → b < wA.heap.size := fun b hb => by have := HP.out.1 b hb; have := HA.out.2.2.2.2.size; omega
          have hKk : NdR P Z wr fk k := (HA.out.2.2.1 j fk k hfk hk).bel hB hPA
          obtain ⟨t', B1, n1, k1, B2, n2, k2⟩ := fk
          simp only at z0 z1 z2
          have hcall := HI.out k (List.mem_of_getElem? hk) ⟨t', B1, n1, k1, B2, n2, k2⟩ d (depth + 1) wr hKk (fun b hb => by have := hPA b hb; have := hB.size; omega) (by have := HD.out.2; omega) (by have := HD.out.1; omega)
          obtain ⟨st1, st2⟩ := sizeAll_take hk
          have ot := okAll_take (d := d) hk
          obtain ⟨S0, hS0⟩ : ∃ S0, 1 + sizeAll (ks.take j) = S0 := ⟨_, rfl⟩
          rw [hS0]
          rw [hS0] at hsz
          obtain ⟨cv, hcv⟩ : ∃ cv, k.cnt d = cv := ⟨_, rfl⟩
          rw [hcv] at hcall
          unfold Nd.cnt at hcv
          have hkp := k.size_pos
          have HS := Lib.hid (And.intro hB (And.intro hok (And.intro hk (And.intro st1 (And.intro st2 (And.intro ot hS0))))))
          subst hAe
          clear hB hok hk hKk hfk hPA st1 st2 ot hS0
          simp only [NF.val] at hcall
          by_cases hc : (k.ok d && decide (k.size ≤ 1024)) = true
          · rw [if_pos hc] at hcv
            simp only [Bool.and_eq_true, decide_eq_true_eq] at hc
            have cv0 : ¬ (cv < 0) := by omega
            have cv0d : decide (cv < 0) = false := decide_eq_false cv0
            have cvb : cv ≤ 1024 := by omega
            by_cases hbig : 1024 < S0 + k.size
            · have bi : (1024 : Int) < (S0 : Int) + cv := by omega
              have bid : decide ((1024 : Int) < (S0 : Int) + cv) = true := decide_eq_true bi
              have hA := HANS.out
              rw [decide_eq_false (by have := HS.out.2.2.2.1; have := HS.out.2.2.2.2.1; have := HS.out.2.2.2.2.2.2; omega), Bool.and_false, if_neg (by simp)] at hA
              subst hA
              have HCV := Lib.hid hcv
              clear hcv hc
              go_wp2_with fail
              refine hcall.mono ?_
              rintro e w2 ⟨rfl, hb2⟩
              have H2 := Lib.hid (HS.out.1.trans (hb2.mono HS.out.1.size))
              clear hb2 hcall
              go_wp2_with fail
              go_ret
              exact ⟨rfl, HA.out.2.2.2.2.trans (H2.out.mono HA.out.2.2.2.2.size)⟩
            · have bi : ¬ (1024 : Int) < (S0 : Int) + cv := by omega
              have bid : decide ((1024 : Int) < (S0 : Int) + cv) = false := decide_eq_false bi
              have HCV := Lib.hid (And.intro hcv (And.intro hc.1 hbig))
              clear hcv hc hbig
              go_wp2_with fail
              refine hcall.mono ?_
              rintro e w2 ⟨rfl, hb2⟩
              have H2 := Lib.hid (HS.out.1.trans (hb2.mono HS.out.1.size))
              clear hb2 hcall
              go_wp2_with fail
              go_roundw
              case measure => simp [intOf]; omega
              exact ⟨j + 1, by omega, by simp, by have := HS.out.2.2.2.1; have := HS.out.2.2.2.2.2.2; have := HCV.out.1; congr 1; omega, by have := HS.out.2.2.2.1; have := HS.out.2.2.2.2.2.2; have := HCV.out.2.2; omega, by rw [HS.out.2.2.2.2.2.1, HS.out.2.1, HCV.out.2.1]; rfl, H2.out⟩
          · rw [if_neg hc] at hcv
            subst hcv
            have hA := HANS.out
            rw [if_neg (fun hh => hc (by
              simp only [Bool.and_eq_true, decide_eq_true_eq] at hh ⊢
              exact ⟨okAll_mem hh.1 (List.mem_of_getElem? HS.out.2.2.1), by have := HS.out.2.2.2.1; have := HS.out.2.2.2.2.1; omega⟩))] at hA
            subst hA
            clear hc
            go_wp2_with fail
            refine hcall.mono ?_
            rintro e w2 ⟨rfl, hb2⟩
            have H2 := Lib.hid (HS.out.1.trans (hb2.mono HS.out.1.size))
            clear hb2 hcall
            go_wp2_with fail
            go_ret
            exact ⟨rfl, HA.out.2.2.2.2.trans (H2.out.mono HA.out.2.2.2.2.size)⟩
        · obtain rfl : j = m2 := by omega
          have hlti : ¬ (j : Int) < j := by omega
          rw [List.take_of_length_le (by omega)] at hok hsz ⊢
          have hA := HANS.out
          rw [hok, decide_eq_true hsz, Bool.true_and, if_pos rfl] at hA
          have HS := Lib.hid (And.intro hA hB)
          clear hA hok hB
          obtain ⟨S0, hS0⟩ : ∃ S0, 1 + sizeAll ks = S0 := ⟨_, rfl⟩
          rw [hS0] at hsz HS ⊢
          clear hS0
          go_wp2_with fail
          go_ret
          exact ⟨by rw [← HS.out.1]; rfl, by first | exact HA.out.2.2.2.2.trans (HS.out.2.mono HA.out.2.2.2.2.size) | (rw [← hX]; exact HA.out.2.2.2.2.trans (HS.out.2.mono HA.out.2.2.2.2.size))⟩
    · rw [Nd.ok, if_neg t3] at hans
      have t3d : (tag == 48) = false := by simp [t3]
      by_cases t5 : 0 < m2
      · have t5i : (0 : Int) < m2 := by omega
        have t5d : decide ((0 : Int) < (m2 : Int)) = true := decide_eq_true t5i
        rw [decide_eq_false (show ¬ ks.length = 0 by omega)] at hans
        simp at hans
        subst hans
        go_wp2_with fail
        try rw [hwA]
        try rw [hX]
        go_wp2_with fail
        go_wp2_with fail
        go_ret
        exact ⟨rfl, by first | exact HA.out.2.2.2.2 | (rw [← hX]; exact HA.out.2.2.2.2)⟩
      · obtain rfl : m2 = 0 := by omega
        obtain rfl : ks = [] := List.eq_nil_of_length_eq_zero hkl
        have hp := content_any tag A1 m1 c1 bs wA HA.out.1
        cases hpo : plainOk tag bs with
        | true =>
          rw [hpo] at hans hp
          simp [Nd.size, sizeAll] at hans
          subst hans
          go_wp2_with fail
          try rw [hwA]
          try rw [hX]
          go_wp2_with fail
          refine hp.mono ?_
          rintro e w2 ⟨rfl, rfl⟩
          go_wp2_with fail
          go_ret
          exact ⟨rfl, by first | exact HA.out.2.2.2.2 | (rw [← hX]; exact HA.out.2.2.2.2)⟩
        | false =>
          rw [hpo] at hans hp
          simp at hans
          subst hans
          go_wp2_with fail
          try rw [hwA]
          try rw [hX]
          go_wp2_with fail
          refine hp.mono ?_
          rintro e w2 ⟨rfl, rfl⟩
          go_wp2_with fail
          go_ret
          exact ⟨rfl, by first | exact HA.out.2.2.2.2 | (rw [← hX]; exact HA.out.2.2.2.2)⟩
end Go.Proofs.Ytgkhhinjdojbhaa
