/-
  The laws' Eq, of calls that are the same.
-/
import Derived.Test.YtmanpfenmamflaaRpc5
namespace Go.Proofs.Ytmanpfenmamflaa
open Go.RowKit

set_option maxHeartbeats 2000000 in
theorem eq17_any (A : Option Addr) (m c : Nat) (A' : Option Addr) (m' c' : Nat) (l : List (Int × List UInt8)) (w : World) (hx : AtsAt w w.heap.size A m l) (hy : AtsAt w w.heap.size A' m' l) (hm63 : m ≤ maxLen) :
    Calls Try.prog 34 #[.slice A m c, .slice A' m' c'] w fun e w' => e = .returned (.bool true) ∧ Below w.heap.size w w' := by
  have hl := hx.1
  have hl' := hy.1
  unfold maxLen at hm63
  obtain rfl : m = m' := by omega
  have H := Lib.hid (And.intro hx (And.intro hy hl))
  clear hx hy hl hl'
  go_enter Try.func34, Try.ntmps34
  go_wp2_with fail
  go_loopw [5] (fun kk wr => ∃ k : Nat, k ≤ m ∧ kk = .int .i64 (k : Int) ∧ Below w.heap.size w wr) (fun kk _ => m - (intOf kk).toNat)
  case atStart => exact ⟨0, by omega, rfl, Below.refl _ _⟩
  case round =>
    obtain ⟨k, hk, rfl, hB⟩ := hrel
    by_cases hlt : k < m
    · have hlti : (k : Int) < m := by omega
      have hltd : decide ((k : Int) < m) = true := decide_eq_true hlti
      have hk0 : ¬ ((k : Int) < 0) := by omega
      obtain ⟨⟨t, x⟩, htx⟩ : ∃ tx, l[k]? = some tx := ⟨_, List.getElem?_eq_getElem (by have := H.out.2.2; omega)⟩
      obtain ⟨_, h2 | ⟨b, off, rfl, h3, h3', h4⟩⟩ := H.out.1.old hB
      · omega
      obtain ⟨k1, Aj, mj, cj, k2, k3⟩ := h4 k t x htx
      obtain ⟨_, g2 | ⟨b', off', rfl, g3, g3', g4⟩⟩ := H.out.2.1.old hB
      · omega
      obtain ⟨l1, Ak, mk, ck, l2, l3⟩ := g4 k t x htx
      have HX := Lib.hid (And.intro k1 (And.intro k2 (And.intro k3 h3)))
      have HY := Lib.hid (And.intro l1 (And.intro l2 (And.intro l3 g3)))
      have HB := Lib.hid hB
      clear h4 g4 k1 k2 k3 l1 l2 l3 h3 g3 htx hB
      have hmB := HB.out.size
      go_wp2_with fail
      refine region_old (by kernel_rfl) (fun wd hHeld hSz => ?_)
      clear hSz
      refine takeL (i := 0) (v := ?_) rfl (by kernel_rfl) (by kernel_rfl) (by kernel_rfl) (fun _ _ _ h => h) (Or.inl ⟨by rfl, ?_⟩) hHeld ?_
      rotate_left
      focus (intro wq hSw; clear hSw; go_simp; try with_reducible rfl)
      try simp only [Act.put, List.setIfInBounds_toArray, List.set_cons_zero, List.set_cons_succ]
      refine takeL (i := 1) (v := ?_) rfl (by kernel_rfl) (by kernel_rfl) (by kernel_rfl) (fun _ _ _ h => h) (Or.inl ⟨by rfl, ?_⟩) hHeld ?_
      rotate_left
      focus (intro wq hSw; clear hSw; go_simp; try with_reducible rfl)
      try simp only [Act.put, List.setIfInBounds_toArray, List.set_cons_zero, List.set_cons_succ]
      refine takeL (i := 2) (v := ?_) rfl (by kernel_rfl) (by kernel_rfl) (by kernel_rfl) (fun _ _ _ h => h) (Or.inl ⟨by rfl, ?_⟩) hHeld ?_
      rotate_left
      focus (intro wq hSw; clear hSw; go_simp; try with_reducible rfl)
      try simp only [Act.put, List.setIfInBounds_toArray, List.set_cons_zero, List.set_cons_succ]
      refine takeL (i := 3) (v := ?_) rfl (by kernel_rfl) (by kernel_rfl) (by kernel_rfl) (fun _ _ _ h => h) (Or.inl ⟨by rfl, ?_⟩) hHeld ?_
      rotate_left
      focus (intro wq hSw; clear hSw; go_simp; try with_reducible rfl)
      try simp only [Act.put, List.setIfInBounds_toArray, List.set_cons_zero, List.set_cons_succ]
      refine takeL (i := 4) (v := ?_) rfl (by kernel_rfl) (by kernel_rfl) (by kernel_rfl) (fun _ _ _ h => h) (Or.inl ⟨by rfl, ?_⟩) hHeld ?_
      rotate_left
      focus (intro wq hSw; have hcq : wq.cell? ⟨b, off + k * 2, none⟩ = some (.int .i64 t) := (Below.cell (p := ⟨b, off + k * 2, none⟩) hSw (Nat.lt_of_lt_of_le HX.out.2.2.2 hmB)).trans HX.out.1; clear hSw; go_simp; try with_reducible rfl)
      try simp only [Act.put, List.setIfInBounds_toArray, List.set_cons_zero, List.set_cons_succ]
      refine takeL (i := 5) (v := ?_) rfl (by kernel_rfl) (by kernel_rfl) (by kernel_rfl) (fun _ _ _ h => h) (Or.inl ⟨by rfl, ?_⟩) hHeld ?_
      rotate_left
      focus (intro wq hSw; clear hSw; go_simp; try with_reducible rfl)
      try simp only [Act.put, List.setIfInBounds_toArray, List.set_cons_zero, List.set_cons_succ]
      refine takeL (i := 6) (v := ?_) rfl (by kernel_rfl) (by kernel_rfl) (by kernel_rfl) (fun _ _ _ h => h) (Or.inl ⟨by rfl, ?_⟩) hHeld ?_
      rotate_left
      focus (intro wq hSw; clear hSw; go_simp; try with_reducible rfl)
      try simp only [Act.put, List.setIfInBounds_toArray, List.set_cons_zero, List.set_cons_succ]
      refine takeL (i := 7) (v := ?_) rfl (by kernel_rfl) (by kernel_rfl) (by kernel_rfl) (fun _ _ _ h => h) (Or.inl ⟨by rfl, ?_⟩) hHeld ?_
      rotate_left
      focus (intro wq hSw; clear hSw; go_simp; try with_reducible rfl)
      try simp only [Act.put, List.setIfInBounds_toArray, List.set_cons_zero, List.set_cons_succ]
      refine takeL (i := 8) (v := ?_) rfl (by kernel_rfl) (by kernel_rfl) (by kernel_rfl) (fun _ _ _ h => h) (Or.inl ⟨by rfl, ?_⟩) hHeld ?_
      rotate_left
      focus (intro wq hSw; clear hSw; go_simp; try with_reducible rfl)
      try simp only [Act.put, List.setIfInBounds_toArray, List.set_cons_zero, List.set_cons_succ]
      refine takeL (i := 9) (v := ?_) rfl (by kernel_rfl) (by kernel_rfl) (by kernel_rfl) (fun _ _ _ h => h) (Or.inl ⟨by rfl, ?_⟩) hHeld ?_
      rotate_left
      focus (intro wq hSw; have hcq : wq.cell? ⟨b', off' + k * 2, none⟩ = some (.int .i64 t) := (Below.cell (p := ⟨b', off' + k * 2, none⟩) hSw (Nat.lt_of_lt_of_le HY.out.2.2.2 hmB)).trans HY.out.1; clear hSw; go_simp; try with_reducible rfl)
      try simp only [Act.put, List.setIfInBounds_toArray, List.set_cons_zero, List.set_cons_succ]
      refine takeL (i := 10) (v := ?_) rfl (by kernel_rfl) (by kernel_rfl) (by kernel_rfl) (fun _ _ _ h => h) (Or.inl ⟨by rfl, ?_⟩) hHeld ?_
      rotate_left
      focus (intro wq hSw; clear hSw; go_simp; try with_reducible rfl)
      try simp only [Act.put, List.setIfInBounds_toArray, List.set_cons_zero, List.set_cons_succ]
      refine takeL (i := 11) (v := ?_) rfl (by kernel_rfl) (by kernel_rfl) (by kernel_rfl) (fun _ _ _ h => h) (Or.inl ⟨by rfl, ?_⟩) hHeld ?_
      rotate_left
      focus (intro wq hSw; clear hSw; go_simp; try with_reducible rfl)
      try simp only [Act.put, List.setIfInBounds_toArray, List.set_cons_zero, List.set_cons_succ]
      refine takeL (i := 12) (v := ?_) rfl (by kernel_rfl) (by kernel_rfl) (by kernel_rfl) (fun _ _ _ h => h) (Or.inl ⟨by rfl, ?_⟩) hHeld ?_
      rotate_left
      focus (intro wq hSw; clear hSw; go_simp; try with_reducible rfl)
      try simp only [Act.put, List.setIfInBounds_toArray, List.set_cons_zero, List.set_cons_succ]
      refine takeL (i := 13) (v := ?_) rfl (by kernel_rfl) (by kernel_rfl) (by kernel_rfl) (fun _ _ _ h => h) (Or.inl ⟨by rfl, ?_⟩) hHeld ?_
      rotate_left
      focus (intro wq hSw; clear hSw; go_simp; try with_reducible rfl)
      try simp only [Act.put, List.setIfInBounds_toArray, List.set_cons_zero, List.set_cons_succ]
      refine takeL (i := 14) (v := ?_) rfl (by kernel_rfl) (by kernel_rfl) (by kernel_rfl) (fun _ _ _ h => h) (Or.inl ⟨by rfl, ?_⟩) hHeld ?_
      rotate_left
      focus (intro wq hSw; clear hSw; go_simp; try with_reducible rfl)
      try simp only [Act.put, List.setIfInBounds_toArray, List.set_cons_zero, List.set_cons_succ]
      refine takeL (i := 15) (v := ?_) rfl (by kernel_rfl) (by kernel_rfl) (by kernel_rfl) (fun _ _ _ h => h) (Or.inl ⟨by rfl, ?_⟩) hHeld ?_
      rotate_left
      focus (intro wq hSw; clear hSw; go_simp; try with_reducible rfl)
      try simp only [Act.put, List.setIfInBounds_toArray, List.set_cons_zero, List.set_cons_succ]
      refine takeL (i := 16) (v := ?_) rfl (by kernel_rfl) (by kernel_rfl) (by kernel_rfl) (fun _ _ _ h => h) (Or.inl ⟨by rfl, ?_⟩) hHeld ?_
      rotate_left
      focus (intro wq hSw; have hcq : wq.cell? ⟨b, off + k * 2 + 1, none⟩ = some (.slice Aj mj cj) := (Below.cell (p := ⟨b, off + k * 2 + 1, none⟩) hSw (Nat.lt_of_lt_of_le HX.out.2.2.2 hmB)).trans HX.out.2.1; clear hSw; go_simp; try with_reducible rfl)
      try simp only [Act.put, List.setIfInBounds_toArray, List.set_cons_zero, List.set_cons_succ]
      refine takeL (i := 17) (v := ?_) rfl (by kernel_rfl) (by kernel_rfl) (by kernel_rfl) (fun _ _ _ h => h) (Or.inl ⟨by rfl, ?_⟩) hHeld ?_
      rotate_left
      focus (intro wq hSw; have hRun := (HX.out.2.2.1.old (Below.mono hSw hmB)).str; clear hSw; go_simp; try with_reducible rfl)
      try simp only [Act.put, List.setIfInBounds_toArray, List.set_cons_zero, List.set_cons_succ]
      refine takeL (i := 18) (v := ?_) rfl (by kernel_rfl) (by kernel_rfl) (by kernel_rfl) (fun _ _ _ h => h) (Or.inl ⟨by rfl, ?_⟩) hHeld ?_
      rotate_left
      focus (intro wq hSw; clear hSw; go_simp; try with_reducible rfl)
      try simp only [Act.put, List.setIfInBounds_toArray, List.set_cons_zero, List.set_cons_succ]
      refine takeL (i := 19) (v := ?_) rfl (by kernel_rfl) (by kernel_rfl) (by kernel_rfl) (fun _ _ _ h => h) (Or.inl ⟨by rfl, ?_⟩) hHeld ?_
      rotate_left
      focus (intro wq hSw; clear hSw; go_simp; try with_reducible rfl)
      try simp only [Act.put, List.setIfInBounds_toArray, List.set_cons_zero, List.set_cons_succ]
      refine takeL (i := 20) (v := ?_) rfl (by kernel_rfl) (by kernel_rfl) (by kernel_rfl) (fun _ _ _ h => h) (Or.inl ⟨by rfl, ?_⟩) hHeld ?_
      rotate_left
      focus (intro wq hSw; clear hSw; go_simp; try with_reducible rfl)
      try simp only [Act.put, List.setIfInBounds_toArray, List.set_cons_zero, List.set_cons_succ]
      refine takeL (i := 21) (v := ?_) rfl (by kernel_rfl) (by kernel_rfl) (by kernel_rfl) (fun _ _ _ h => h) (Or.inl ⟨by rfl, ?_⟩) hHeld ?_
      rotate_left
      focus (intro wq hSw; clear hSw; go_simp; try with_reducible rfl)
      try simp only [Act.put, List.setIfInBounds_toArray, List.set_cons_zero, List.set_cons_succ]
      refine takeL (i := 22) (v := ?_) rfl (by kernel_rfl) (by kernel_rfl) (by kernel_rfl) (fun _ _ _ h => h) (Or.inl ⟨by rfl, ?_⟩) hHeld ?_
      rotate_left
      focus (intro wq hSw; have hcq : wq.cell? ⟨b', off' + k * 2 + 1, none⟩ = some (.slice Ak mk ck) := (Below.cell (p := ⟨b', off' + k * 2 + 1, none⟩) hSw (Nat.lt_of_lt_of_le HY.out.2.2.2 hmB)).trans HY.out.2.1; clear hSw; go_simp; try with_reducible rfl)
      try simp only [Act.put, List.setIfInBounds_toArray, List.set_cons_zero, List.set_cons_succ]
      refine takeL (i := 23) (v := ?_) rfl (by kernel_rfl) (by kernel_rfl) (by kernel_rfl) (fun _ _ _ h => h) (Or.inl ⟨by rfl, ?_⟩) hHeld ?_
      rotate_left
      focus (intro wq hSw; have hRun := (HY.out.2.2.1.old (Below.mono hSw hmB)).str; clear hSw; go_simp; try with_reducible rfl)
      try simp only [Act.put, List.setIfInBounds_toArray, List.set_cons_zero, List.set_cons_succ]
      refine takeL (i := 24) (v := ?_) rfl (by kernel_rfl) (by kernel_rfl) (by kernel_rfl) (fun _ _ _ h => h) (Or.inl ⟨by rfl, ?_⟩) hHeld ?_
      rotate_left
      focus (intro wq hSw; clear hSw; go_simp; try with_reducible rfl)
      try simp only [Act.put, List.setIfInBounds_toArray, List.set_cons_zero, List.set_cons_succ]
      refine takeL (i := 25) (v := ?_) rfl (by kernel_rfl) (by kernel_rfl) (by kernel_rfl) (fun _ _ _ h => h) (Or.inl ⟨by rfl, ?_⟩) hHeld ?_
      rotate_left
      focus (intro wq hSw; clear hSw; go_simp; try with_reducible rfl)
      try simp only [Act.put, List.setIfInBounds_toArray, List.set_cons_zero, List.set_cons_succ]
      refine wpAnyH_done (by kernel_rfl) ?_ _
      refine NoPanic.normal ?_
      have HH := Lib.hid (HB.out.trans (Below.mono hHeld hmB))
      clear hHeld
      go_wp2_with fail
      go_roundw
      case measure => simp [intOf]; omega
      exact ⟨k + 1, by omega, by simp, HH.out⟩
    · obtain rfl : k = m := by omega
      have hlti : ¬ (k : Int) < k := by omega
      have HB := Lib.hid hB
      clear hB
      go_wp2_with fail
      go_ret
      exact ⟨rfl, HB.out⟩
set_option maxRecDepth 100000 in
set_option maxHeartbeats 4000000 in
theorem eq25_any (c : PCall) (p d e t u p' d' e' t' u' : Sl) (w : World) (h : CallIs w w.heap.size c p d e t u) (h' : CallIs w w.heap.size c p' d' e' t' u') :
    Calls Try.prog 12 #[callV c p d e t u, callV c p' d' e' t' u'] w fun r w' => r = .returned (.bool true) ∧ Below w.heap.size w w' := by
  unfold callV
  have hal : Below w.heap.size w ((w.alloc (.cells (callC c p d e t u) 27)).alloc (.cells (callC c p' d' e' t' u') 27)) := ((Below.refl _ _).alloc (Nat.le_refl _) _).alloc (by simp) _
  have s1 := (h.hp.old hal).str
  have s2 := (h'.hp.old hal).str
  have s3 := (h.hd.old hal).str
  have s4 := (h'.hd.old hal).str
  have s5 := (h.he.old hal).str
  have s6 := (h'.he.old hal).str
  have H := Lib.hid (And.intro (h.old hal) (And.intro (h'.old hal) hal))
  clear h h' hal
  unfold callC at s1 s2 s3 s4 s5 s6
  go_enter Try.func12, Try.ntmps12
  go_wp2_with fail
  clear s1 s2 s3 s4 s5 s6
  obtain ⟨wA, hwA⟩ : ∃ wA, (w.alloc (.cells (callC c p d e t u) 27)).alloc (.cells (callC c p' d' e' t' u') 27) = wA := ⟨_, rfl⟩
  have b1 : Blk wA w.heap.size 27 (callC c p d e t u) := by rw [← hwA]; exact (Blk.new _ _ _).alloc _
  have b2 : Blk wA (w.heap.size + 1) 27 (callC c p' d' e' t' u') := by
    rw [← hwA]
    have := Blk.new (w.alloc (.cells (callC c p d e t u) 27)) 27 (callC c p' d' e' t' u')
    rwa [show (w.alloc (.cells (callC c p d e t u) 27)).heap.size = w.heap.size + 1 by simp] at this
  rw [hwA] at H
  unfold callC at hwA
  rw [hwA]
  have HA := Lib.hid (And.intro b1 b2)
  have hI := H.out.1.mono H.out.2.2.size
  have hI' := H.out.2.1.mono H.out.2.2.size
  have HI := Lib.hid (And.intro hI hI')
  clear hwA b1 b2 hI hI'
  refine (eq17_any t.A t.m t.c t'.A t'.m t'.c c.t1 wA HI.out.1.ht HI.out.2.ht HI.out.1.tm).mono ?_
  rintro e1 w1 ⟨rfl, hb1⟩
  have q1 := (HA.out.1.below hb1).cell 10
  have q2 := (HA.out.2.below hb1).cell 10
  simp only [callC, List.getElem?_toArray, List.getElem?_cons_succ, List.getElem?_cons_zero] at q1 q2
  have H1 := Lib.hid (And.intro (HI.out.1.old hb1) (And.intro (HI.out.2.old hb1) hb1))
  clear hb1
  go_wp2_with fail
  refine (eq17_any u.A u.m u.c u'.A u'.m u'.c c.t2 w1 (H1.out.1.hu.mono H1.out.2.2.size) (H1.out.2.1.hu.mono H1.out.2.2.size) H1.out.1.um).mono ?_
  rintro e2 w2 ⟨rfl, hb2⟩
  have H2 := Lib.hid (H.out.2.2.trans ((H1.out.2.2.trans (hb2.mono H1.out.2.2.size)).mono H.out.2.2.size))
  clear hb2
  go_wp2_with fail
  go_ret
  exact ⟨rfl, H2.out⟩
end Go.Proofs.Ytmanpfenmamflaa
