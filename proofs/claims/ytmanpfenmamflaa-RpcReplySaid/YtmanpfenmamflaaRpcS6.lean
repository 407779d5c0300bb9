/-
  The laws' Eq, of replies that are the same.
-/
import Derived.Test.YtmanpfenmamflaaRpcS2
import Derived.Test.YtmanpfenmamflaaRpc6
namespace Go.Proofs.Ytmanpfenmamflaa
open Go.RowKit

set_option maxRecDepth 100000 in
set_option maxHeartbeats 4000000 in
theorem eq26_any (c : PRep) (d e t d' e' t' : Sl) (w : World) (h : RepIs w w.heap.size c d e t) (h' : RepIs w w.heap.size c d' e' t') :
    Calls Try.prog 21 #[repV c d e t, repV c d' e' t'] w fun r w' => r = .returned (.bool true) ∧ Below w.heap.size w w' := by
  unfold repV
  have hal : Below w.heap.size w ((w.alloc (.cells (repC c d e t) 48)).alloc (.cells (repC c d' e' t') 48)) := ((Below.refl _ _).alloc (Nat.le_refl _) _).alloc (by simp) _
  have s3 := (h.hd.old hal).str
  have s4 := (h'.hd.old hal).str
  have hm1 := h.he.1
  have hm2 := h'.he.1
  have hem : e.m = e'.m := by omega
  have hm63 : (e'.m : Int) ≤ 9223372036854775807 := by have := h'.he.2.1; have := h'.he.2.2.1; unfold maxLen at this; omega
  have H := Lib.hid (And.intro (h.old hal) (And.intro (h'.old hal) (And.intro hal (And.intro hm1 hm2))))
  obtain ⟨M, hM⟩ : ∃ M, e'.m = M := ⟨_, rfl⟩
  rw [hM] at hem hm63
  rw [hem, hM]
  clear h h' hal hm1 hm2
  unfold repC at s3 s4
  rw [hem, hM] at s3 s4
  have HM := Lib.hid (And.intro hem hM)
  clear hem hM
  go_enter Try.func21, Try.ntmps21
  go_wp2_with fail
  clear s3 s4
  obtain ⟨Y, hY⟩ : ∃ Y, w.heap.size = Y := ⟨_, rfl⟩
  obtain ⟨wA, hwA⟩ : ∃ wA, (w.alloc (.cells #[.int .i64 c.rv, .int .i64 c.a, .int .i64 c.b, .slice d.A d.m d.c, .slice e.A M e.c, .slice t.A t.m t.c] 48)).alloc (.cells #[.int .i64 c.rv, .int .i64 c.a, .int .i64 c.b, .slice d'.A d'.m d'.c, .slice e'.A M e'.c, .slice t'.A t'.m t'.c] 48) = wA := ⟨_, rfl⟩
  have b1 : Blk wA Y 48 #[.int .i64 c.rv, .int .i64 c.a, .int .i64 c.b, .slice d.A d.m d.c, .slice e.A M e.c, .slice t.A t.m t.c] := by rw [← hwA, ← hY]; exact (Blk.new _ _ _).alloc _
  have b2 : Blk wA (Y + 1) 48 #[.int .i64 c.rv, .int .i64 c.a, .int .i64 c.b, .slice d'.A d'.m d'.c, .slice e'.A M e'.c, .slice t'.A t'.m t'.c] := by
    rw [← hwA, ← hY]
    have := Blk.new (w.alloc (.cells #[.int .i64 c.rv, .int .i64 c.a, .int .i64 c.b, .slice d.A d.m d.c, .slice e.A M e.c, .slice t.A t.m t.c] 48)) 48 #[.int .i64 c.rv, .int .i64 c.a, .int .i64 c.b, .slice d'.A d'.m d'.c, .slice e'.A M e'.c, .slice t'.A t'.m t'.c]
    rwa [show (w.alloc (.cells #[.int .i64 c.rv, .int .i64 c.a, .int .i64 c.b, .slice d.A d.m d.c, .slice e.A M e.c, .slice t.A t.m t.c] 48)).heap.size = w.heap.size + 1 by simp] at this
  have hr1 : repC c d e t = #[.int .i64 c.rv, .int .i64 c.a, .int .i64 c.b, .slice d.A d.m d.c, .slice e.A M e.c, .slice t.A t.m t.c] := by unfold repC; rw [HM.out.1]
  have hr2 : repC c d' e' t' = #[.int .i64 c.rv, .int .i64 c.a, .int .i64 c.b, .slice d'.A d'.m d'.c, .slice e'.A M e'.c, .slice t'.A t'.m t'.c] := by unfold repC; rw [HM.out.2]
  rw [hr1, hr2, hwA] at H
  rw [hwA, hY]
  have hI := H.out.1.mono H.out.2.2.1.size
  have hI' := H.out.2.1.mono H.out.2.2.1.size
  have hYw := H.out.2.2.1
  rw [hY] at hYw
  have HA := Lib.hid (And.intro b1 (And.intro b2 (And.intro hI (And.intro hI' (And.intro hYw hY)))))
  clear hwA b1 b2 hr1 hr2 hI hI' hYw hY
  refine (eq17_any t.A t.m t.c t'.A t'.m t'.c c.attrs wA HA.out.2.2.1.ht HA.out.2.2.2.1.ht HA.out.2.2.1.tm).mono ?_
  rintro r1 w1 ⟨rfl, hb1⟩
  have H1 := Lib.hid hb1
  clear hb1
  go_wp2_with fail
  go_loopw [5] (fun kk wr => ∃ k : Nat, k ≤ M ∧ kk = .int .i64 (k : Int) ∧ Below wA.heap.size wA wr) (fun kk _ => M - (intOf kk).toNat)
  case atStart => exact ⟨0, by omega, rfl, H1.out⟩
  case round =>
    obtain ⟨k, hk, rfl, hB⟩ := hrel
    have q1 := (HA.out.1.below hB).cell 4
    have q2 := (HA.out.2.1.below hB).cell 4
    simp only [List.getElem?_toArray, List.getElem?_cons_succ, List.getElem?_cons_zero] at q1 q2
    have HB := Lib.hid hB
    by_cases hlt : k < M
    · have hlti : (k : Int) < M := by omega
      have hltd : decide ((k : Int) < M) = true := decide_eq_true hlti
      have hk0 : ¬ ((k : Int) < 0) := by omega
      obtain ⟨x, hx⟩ : ∃ x, c.list[k]? = some x := ⟨_, List.getElem?_eq_getElem (by have := H.out.2.2.2.2; have := HM.out.2; omega)⟩
      obtain ⟨_, _, _, h0 | ⟨b, off, hA1, h3, h3', h4⟩⟩ := HA.out.2.2.1.he.old hB
      · have := HM.out.1; omega
      obtain ⟨_, _, _, g0 | ⟨b', off', hA2, g3, g3', g4⟩⟩ := HA.out.2.2.2.1.he.old hB
      · have := HM.out.2; omega
      have k1 := h4 k x hx
      have k2 := g4 k x hx
      rw [hA1] at q1
      rw [hA2] at q2
      have HX := Lib.hid (And.intro k1 (And.intro k2 (And.intro q1 (And.intro q2 (And.intro h3' (And.intro g3' (And.intro (HA.out.1.below hB).lt (HA.out.2.1.below hB).lt)))))))
      clear h4 g4 k1 k2 hB h3 g3 h3' g3' hx hA1 hA2
      go_wp2_with fail
      refine region_old (by kernel_rfl) (fun wd hHeld hSz => ?_)
      clear hSz
      refine takeL (i := 0) (v := ?_) rfl (by kernel_rfl) (by kernel_rfl) (by kernel_rfl) (fun _ _ _ h => h) (Or.inl ⟨by rfl, ?_⟩) hHeld ?_
      rotate_left
      focus (intro wq hSw; clear hSw; go_simp; try with_reducible rfl)
      try simp only [Act.put, List.setIfInBounds_toArray, List.set_cons_zero, List.set_cons_succ]
      refine takeL (i := 1) (v := ?_) rfl (by kernel_rfl) (by kernel_rfl) (by kernel_rfl) (fun _ _ _ h => h) (Or.inl ⟨by rfl, ?_⟩) hHeld ?_
      rotate_left
      focus (intro wq hSw; have hcq := (Below.cell (p := ⟨Y, 4, none⟩) hSw HX.out.2.2.2.2.2.2.1).trans HX.out.2.2.1; clear hSw; go_simp; try with_reducible rfl)
      try simp only [Act.put, List.setIfInBounds_toArray, List.set_cons_zero, List.set_cons_succ]
      refine takeL (i := 2) (v := ?_) rfl (by kernel_rfl) (by kernel_rfl) (by kernel_rfl) (fun _ _ _ h => h) (Or.inl ⟨by rfl, ?_⟩) hHeld ?_
      rotate_left
      focus (intro wq hSw; clear hSw; go_simp; try with_reducible rfl)
      try simp only [Act.put, List.setIfInBounds_toArray, List.set_cons_zero, List.set_cons_succ]
      refine takeL (i := 3) (v := ?_) rfl (by kernel_rfl) (by kernel_rfl) (by kernel_rfl) (fun _ _ _ h => h) (Or.inl ⟨by rfl, ?_⟩) hHeld ?_
      rotate_left
      focus (intro wq hSw; clear hSw; go_simp; try with_reducible rfl)
      try simp only [Act.put, List.setIfInBounds_toArray, List.set_cons_zero, List.set_cons_succ]
      refine takeL (i := 4) (v := ?_) rfl (by kernel_rfl) (by kernel_rfl) (by kernel_rfl) (fun _ _ _ h => h) (Or.inl ⟨by rfl, ?_⟩) hHeld ?_
      rotate_left
      focus (intro wq hSw; have hcq := (Below.cell (p := ⟨b, off + k, none⟩) hSw HX.out.2.2.2.2.1).trans HX.out.1; clear hSw; go_simp; try with_reducible rfl)
      try simp only [Act.put, List.setIfInBounds_toArray, List.set_cons_zero, List.set_cons_succ]
      refine takeL (i := 5) (v := ?_) rfl (by kernel_rfl) (by kernel_rfl) (by kernel_rfl) (fun _ _ _ h => h) (Or.inl ⟨by rfl, ?_⟩) hHeld ?_
      rotate_left
      focus (intro wq hSw; clear hSw; go_simp; try with_reducible rfl)
      try simp only [Act.put, List.setIfInBounds_toArray, List.set_cons_zero, List.set_cons_succ]
      refine takeL (i := 6) (v := ?_) rfl (by kernel_rfl) (by kernel_rfl) (by kernel_rfl) (fun _ _ _ h => h) (Or.inl ⟨by rfl, ?_⟩) hHeld ?_
      rotate_left
      focus (intro wq hSw; have hcq := (Below.cell (p := ⟨Y + 1, 4, none⟩) hSw HX.out.2.2.2.2.2.2.2).trans HX.out.2.2.2.1; clear hSw; go_simp; try with_reducible rfl)
      try simp only [Act.put, List.setIfInBounds_toArray, List.set_cons_zero, List.set_cons_succ]
      refine takeL (i := 7) (v := ?_) rfl (by kernel_rfl) (by kernel_rfl) (by kernel_rfl) (fun _ _ _ h => h) (Or.inl ⟨by rfl, ?_⟩) hHeld ?_
      rotate_left
      focus (intro wq hSw; clear hSw; go_simp; try with_reducible rfl)
      try simp only [Act.put, List.setIfInBounds_toArray, List.set_cons_zero, List.set_cons_succ]
      refine takeL (i := 8) (v := ?_) rfl (by kernel_rfl) (by kernel_rfl) (by kernel_rfl) (fun _ _ _ h => h) (Or.inl ⟨by rfl, ?_⟩) hHeld ?_
      rotate_left
      focus (intro wq hSw; clear hSw; go_simp; try with_reducible rfl)
      try simp only [Act.put, List.setIfInBounds_toArray, List.set_cons_zero, List.set_cons_succ]
      refine takeL (i := 9) (v := ?_) rfl (by kernel_rfl) (by kernel_rfl) (by kernel_rfl) (fun _ _ _ h => h) (Or.inl ⟨by rfl, ?_⟩) hHeld ?_
      rotate_left
      focus (intro wq hSw; have hcq := (Below.cell (p := ⟨b', off' + k, none⟩) hSw HX.out.2.2.2.2.2.1).trans HX.out.2.1; clear hSw; go_simp; try with_reducible rfl)
      try simp only [Act.put, List.setIfInBounds_toArray, List.set_cons_zero, List.set_cons_succ]
      refine takeL (i := 10) (v := ?_) rfl (by kernel_rfl) (by kernel_rfl) (by kernel_rfl) (fun _ _ _ h => h) (Or.inl ⟨by rfl, ?_⟩) hHeld ?_
      rotate_left
      focus (intro wq hSw; clear hSw; go_simp; try with_reducible rfl)
      try simp only [Act.put, List.setIfInBounds_toArray, List.set_cons_zero, List.set_cons_succ]
      refine wpAnyH_done (by kernel_rfl) ?_ _
      refine NoPanic.normal ?_
      have HH := Lib.hid (HB.out.trans (Below.mono hHeld HB.out.size))
      clear hHeld
      go_wp2_with fail
      go_roundw
      case measure => simp [intOf]; omega
      exact ⟨k + 1, by omega, by simp, HH.out⟩
    · have hlti : ¬ (k : Int) < M := by omega
      have hltd : decide ((k : Int) < M) = false := decide_eq_false hlti
      clear hB
      go_wp2_with fail
      go_ret
      exact ⟨rfl, by rw [HA.out.2.2.2.2.2]; exact HA.out.2.2.2.2.1.trans (HB.out.mono (by have := HA.out.2.1.lt; omega))⟩
end Go.Proofs.Ytmanpfenmamflaa
