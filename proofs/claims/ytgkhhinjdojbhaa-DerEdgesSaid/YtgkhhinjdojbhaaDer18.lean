/-
  DER: the same nodes are told the same.
-/
import Derived.Test.YtgkhhinjdojbhaaDer17
namespace Go.Proofs.Ytgkhhinjdojbhaa
open Go.RowKit

theorem cell_old {w w' : World} {b o : Nat} {v : Value} (ht : Old w w') (h : w.cell? ⟨b, o, none⟩ = some v) : w'.cell? ⟨b, o, none⟩ = some v := cell_turn h (Turn.of_below [] ht) (by simp)
set_option maxRecDepth 100000 in
set_option maxHeartbeats 8000000 in
theorem eq_any (P P' : Nat → Prop) (Z Z' : NF → Prop) : ∀ (n : Nd) (f g : NF) (w : World), NdR P Z w f n → NdR P' Z' w g n → (∀ b, P b → b < w.heap.size) → (∀ b, P' b → b < w.heap.size) →
    Calls Try.prog 16 #[f.val, g.val] w fun e w' => e = .returned (.bool true) ∧ Below w.heap.size w w' := by
  intro n
  refine Nd.rec' (P := fun n => ∀ (f g : NF) (w : World), NdR P Z w f n → NdR P' Z' w g n → (∀ b, P b → b < w.heap.size) → (∀ b, P' b → b < w.heap.size) → Calls Try.prog 16 #[f.val, g.val] w fun e w' => e = .returned (.bool true) ∧ Below w.heap.size w w') ?_ n
  clear n
  intro tag bs ks ih f g w hN hN' hPl hPl'
  cases hN with
  | mk _ _ fs _ hb hbP hk hkm hkP hZ hl hkids =>
  obtain ⟨tag, A1, m1, c1, A2, m2, c2⟩ := f
  obtain ⟨tag', A1', m1', c1', A2', m2', c2'⟩ := g
  simp only at *
  obtain ⟨fs', hb', hk', hl', hkids', rfl⟩ : ∃ fs', Rd w A1' m1' c1' bs ∧ RdC Try.eN w A2' m2' fs' ∧ fs'.length = ks.length ∧ (∀ (j : Nat) (g : NF) (k : Nd), fs'[j]? = some g → ks[j]? = some k → NdR P' Z' w g k) ∧ tag' = tag := by
    generalize hgn : Nd.mk tag bs ks = n at hN'
    cases hN' with
    | mk _ bs' fs' ks' hb hbP hk hkm hkP hZ hl hkids =>
      injection hgn with e1 e2 e3
      subst e2; subst e3
      exact ⟨fs', hb, hk, hl, hkids, e1.symm⟩
  obtain rfl : m1 = m1' := by have := hb.1; have := hb'.1; omega
  obtain rfl : m2 = m2' := by have := hk.1; have := hk'.1; omega
  have hm63 : (m2 : Int) ≤ 9223372036854775807 := by unfold maxLen at hkm; omega
  obtain ⟨X, hX⟩ : ∃ X, w.heap.size = X := ⟨_, rfl⟩
  obtain ⟨wA, hwA⟩ : ∃ wA, (w.alloc (.cells #[.int .i64 tag', .slice A1 m1 c1, .slice A2 m2 c2] 25)).alloc (.cells #[.int .i64 tag', .slice A1' m1 c1', .slice A2' m2 c2'] 25) = wA := ⟨_, rfl⟩
  have bA : Blk wA X 25 #[.int .i64 tag', .slice A1 m1 c1, .slice A2 m2 c2] := by rw [← hwA, ← hX]; exact (Blk.new _ _ _).alloc _
  have bB : Blk wA (X + 1) 25 #[.int .i64 tag', .slice A1' m1 c1', .slice A2' m2 c2'] := by rw [← hwA, show X + 1 = (w.alloc (.cells #[.int .i64 tag', .slice A1 m1 c1, .slice A2 m2 c2] 25)).heap.size by rw [← hX]; simp]; exact Blk.new _ _ _
  have hbA : Below w.heap.size w wA := by rw [← hwA]; exact ((Below.refl _ _).alloc (Nat.le_refl _) _).alloc (by simp) _
  have g0 := bA.cell 0
  have g1 := bA.cell 1
  have g2 := bA.cell 2
  have k0 := bB.cell 0
  have k1 := bB.cell 1
  have k2 := bB.cell 2
  simp only [List.getElem?_toArray, List.getElem?_cons_succ, List.getElem?_cons_zero] at g0 g1 g2 k0 k1 k2
  have hs1 := (hb.below hbA).str
  have hs2 := (hb'.below hbA).str
  have hkl : ks.length = m2 := by have := hk.1; omega
  have HA := Lib.hid (And.intro (hk.below hbA) (And.intro (hk'.below hbA) (And.intro bA (And.intro bB hbA))))
  have hK1 : ∀ (j : Nat) (g : NF) (k : Nd), fs[j]? = some g → ks[j]? = some k → NdR P Z wA g k := fun j g k hg hk => (hkids j g k hg hk).bel hbA hPl
  have hK2 : ∀ (j : Nat) (g : NF) (k : Nd), fs'[j]? = some g → ks[j]? = some k → NdR P' Z' wA g k := fun j g k hg hk => (hkids' j g k hg hk).bel hbA hPl'
  have HK := Lib.hid (And.intro hK1 (And.intro hK2 (And.intro (show ∀ b, P b → b < wA.heap.size from fun b hb => by have := hPl b hb; have := hbA.size; omega) (show ∀ b, P' b → b < wA.heap.size from fun b hb => by have := hPl' b hb; have := hbA.size; omega))))
  have HI := Lib.hid ih
  have HL := Lib.hid (And.intro hl hl')
  clear hb hb' hbP hk hk' hkP hZ hl hl' hkids hkids' hPl hPl' ih bA bB hbA hK1 hK2 hkm
  simp only [NF.val]
  go_enter Try.func16, Try.ntmps16
  go_wp2_with fail
  try rw [hX]
  try rw [hwA]
  go_wp2_with fail
  clear hs1 hs2
  go_loopw [5] (fun kk wr => ∃ j : Nat, j ≤ m2 ∧ kk = .int .i64 (j : Int) ∧ Below wA.heap.size wA wr) (fun kk _ => m2 - (intOf kk).toNat)
  case atStart => exact ⟨0, by omega, rfl, Below.refl _ _⟩
  case round =>
    obtain ⟨j, hj, rfl, hB⟩ := hrel
    have r2 := cell_old hB g2
    have s2 := cell_old hB k2
    by_cases hlt : j < m2
    · have hlti : (j : Int) < m2 := by omega
      have hltd : decide ((j : Int) < (m2 : Int)) = true := decide_eq_true hlti
      have hj0 : ¬ ((j : Int) < 0) := by omega
      obtain ⟨k, hk⟩ : ∃ k, ks[j]? = some k := ⟨_, List.getElem?_eq_getElem (by omega)⟩
      obtain ⟨fk, hfk⟩ : ∃ fk, fs[j]? = some fk := ⟨_, List.getElem?_eq_getElem (by have := HL.out.1; omega)⟩
      obtain ⟨gk, hgk⟩ : ∃ gk, fs'[j]? = some gk := ⟨_, List.getElem?_eq_getElem (by have := HL.out.2; omega)⟩
      obtain ⟨ga, oa, hAa, z0, z1, z2⟩ := node_at (HA.out.1.below hB) hfk
      obtain ⟨gb, ob, hAb, y0, y1, y2⟩ := node_at (HA.out.2.1.below hB) hgk
      have hn1 := (HK.out.1 j fk k hfk hk).bel hB HK.out.2.2.1
      have hn2 := (HK.out.2.1 j gk k hgk hk).bel hB HK.out.2.2.2
      obtain ⟨t1, B1, n1, q1, B2, n2, q2⟩ := fk
      obtain ⟨t1', B1', n1', q1', B2', n2', q2'⟩ := gk
      simp only at z0 z1 z2 y0 y1 y2
      have HN := Lib.hid (And.intro hn1 (And.intro hn2 (And.intro (List.mem_of_getElem? hk) hB)))
      subst hAa
      subst hAb
      clear hn1 hn2 hk hfk hgk hB
      go_wp2_with fail
      refine region_old (by kernel_rfl) (fun wd hHeld hSz => ?_)
      have HSz := Lib.hid hSz
      clear hSz
      have hcall := HI.out k HN.out.2.2.1 ⟨t1, B1, n1, q1, B2, n2, q2⟩ ⟨t1', B1', n1', q1', B2', n2', q2'⟩ wd (HN.out.1.bel hHeld (fun b hb => by have := HK.out.2.2.1 b hb; have := HN.out.2.2.2.size; omega)) (HN.out.2.1.bel hHeld (fun b hb => by have := HK.out.2.2.2 b hb; have := HN.out.2.2.2.size; omega)) (fun b hb => by have := HK.out.2.2.1 b hb; have := HN.out.2.2.2.size; have := hHeld.size; omega) (fun b hb => by have := HK.out.2.2.2 b hb; have := HN.out.2.2.2.size; have := hHeld.size; omega)
      simp only [NF.val] at hcall
      have HO := Lib.hid hHeld
      refine takeL (i := 0) (v := ?_) rfl (by kernel_rfl) (by kernel_rfl) (by kernel_rfl) (fun _ _ _ h => h) (Or.inl ⟨by rfl, ?_⟩) hHeld ?_
      rotate_left
      focus (intro wq hSw; clear hSw; go_simp; try with_reducible rfl)
      try simp only [Act.put, List.setIfInBounds_toArray, List.set_cons_zero, List.set_cons_succ]
      refine takeL (i := 1) (v := ?_) rfl (by kernel_rfl) (by kernel_rfl) (by kernel_rfl) (fun _ _ _ h => h) (Or.inl ⟨by rfl, ?_⟩) hHeld ?_
      rotate_left
      focus (intro wq hSw; have er2 := cell_old hSw r2; clear hSw; go_simp; try with_reducible rfl)
      try simp only [Act.put, List.setIfInBounds_toArray, List.set_cons_zero, List.set_cons_succ]
      refine takeL (i := 2) (v := ?_) rfl (by kernel_rfl) (by kernel_rfl) (by kernel_rfl) (fun _ _ _ h => h) (Or.inl ⟨by rfl, ?_⟩) hHeld ?_
      rotate_left
      focus (intro wq hSw; clear hSw; go_simp; try with_reducible rfl)
      try simp only [Act.put, List.setIfInBounds_toArray, List.set_cons_zero, List.set_cons_succ]
      refine takeL (i := 3) (v := ?_) rfl (by kernel_rfl) (by kernel_rfl) (by kernel_rfl) (fun _ _ _ h => h) (Or.inl ⟨by rfl, ?_⟩) hHeld ?_
      rotate_left
      focus (intro wq hSw; clear hSw; go_simp; try with_reducible rfl)
      try simp only [Act.put, List.setIfInBounds_toArray, List.set_cons_zero, List.set_cons_succ]
      refine takeL (i := 4) (v := ?_) rfl (by kernel_rfl) (by kernel_rfl) (by kernel_rfl) (fun _ _ _ h => h) (Or.inl ⟨by rfl, ?_⟩) hHeld ?_
      rotate_left
      focus (intro wq hSw; have ez0 := cell_old hSw z0; have ez1 := cell_old hSw z1; have ez2 := cell_old hSw z2; clear hSw; go_simp; try with_reducible rfl)
      try simp only [Act.put, List.setIfInBounds_toArray, List.set_cons_zero, List.set_cons_succ]
      refine takeL (i := 5) (v := ?_) rfl (by kernel_rfl) (by kernel_rfl) (by kernel_rfl) (fun _ _ _ h => h) (Or.inl ⟨by rfl, ?_⟩) hHeld ?_
      rotate_left
      focus (intro wq hSw; clear hSw; go_simp; try with_reducible rfl)
      try simp only [Act.put, List.setIfInBounds_toArray, List.set_cons_zero, List.set_cons_succ]
      refine takeL (i := 6) (v := ?_) rfl (by kernel_rfl) (by kernel_rfl) (by kernel_rfl) (fun _ _ _ h => h) (Or.inl ⟨by rfl, ?_⟩) hHeld ?_
      rotate_left
      focus (intro wq hSw; have es2 := cell_old hSw s2; clear hSw; go_simp; try with_reducible rfl)
      try simp only [Act.put, List.setIfInBounds_toArray, List.set_cons_zero, List.set_cons_succ]
      refine takeL (i := 7) (v := ?_) rfl (by kernel_rfl) (by kernel_rfl) (by kernel_rfl) (fun _ _ _ h => h) (Or.inl ⟨by rfl, ?_⟩) hHeld ?_
      rotate_left
      focus (intro wq hSw; clear hSw; go_simp; try with_reducible rfl)
      try simp only [Act.put, List.setIfInBounds_toArray, List.set_cons_zero, List.set_cons_succ]
      refine takeL (i := 8) (v := ?_) rfl (by kernel_rfl) (by kernel_rfl) (by kernel_rfl) (fun _ _ _ h => h) (Or.inl ⟨by rfl, ?_⟩) hHeld ?_
      rotate_left
      focus (intro wq hSw; clear hSw; go_simp; try with_reducible rfl)
      try simp only [Act.put, List.setIfInBounds_toArray, List.set_cons_zero, List.set_cons_succ]
      refine takeL (i := 9) (v := ?_) rfl (by kernel_rfl) (by kernel_rfl) (by kernel_rfl) (fun _ _ _ h => h) (Or.inl ⟨by rfl, ?_⟩) hHeld ?_
      rotate_left
      focus (intro wq hSw; have ey0 := cell_old hSw y0; have ey1 := cell_old hSw y1; have ey2 := cell_old hSw y2; clear hSw; go_simp; try with_reducible rfl)
      try simp only [Act.put, List.setIfInBounds_toArray, List.set_cons_zero, List.set_cons_succ]
      refine wpAnyH_ready (rs := [10]) (by kernel_rfl) (by simp) ?_
      refine consL rfl (fun K hK => ?_) AllReadyH.nil
      go_simp
      refine hcall.mono ?_
      rintro e w' ⟨rfl, hb'⟩
      refine hK.out _ _ (Old.trans HO.out hb') (fun hHeld => ?_)
      clear hK K
      try simp only [Act.put, List.setIfInBounds_toArray, List.set_cons_zero, List.set_cons_succ]
      refine takeL (i := 11) (v := ?_) rfl (by kernel_rfl) (by kernel_rfl) (by kernel_rfl) (fun _ _ _ h => h) (Or.inl ⟨by rfl, ?_⟩) hHeld ?_
      rotate_left
      focus (intro wq hSw; clear hSw; go_simp; try with_reducible rfl)
      try simp only [Act.put, List.setIfInBounds_toArray, List.set_cons_zero, List.set_cons_succ]
      refine wpAnyH_done (by kernel_rfl) ?_ _
      refine NoPanic.normal ?_
      have HH := Lib.hid (HN.out.2.2.2.trans (Below.mono hHeld HN.out.2.2.2.size))
      clear hHeld hcall
      go_wp2_with fail
      go_roundw
      case measure => simp [intOf]; omega
      exact ⟨j + 1, by omega, by simp, HH.out⟩
    · obtain rfl : j = m2 := by omega
      have hlti : ¬ (j : Int) < j := by omega
      have hltd : decide ((j : Int) < (j : Int)) = false := decide_eq_false hlti
      have HB := Lib.hid (HA.out.2.2.2.2.trans (hB.mono HA.out.2.2.2.2.size))
      clear hB
      go_wp2_with fail
      go_ret
      exact ⟨rfl, by first | exact HB.out | (rw [← hX]; exact HB.out)⟩
end Go.Proofs.Ytgkhhinjdojbhaa
