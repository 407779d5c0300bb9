/-
  The laws' same: all that both tables tell.
-/
import Derived.Test.YtnpncbpbeikcaaaSesP
import Derived.Test.YtnpncbpbeikcaaaSes11
import Derived.Test.YtnpncbpbeikcaaaRange1
namespace Go.Proofs.Ytnpncbpbeikcaaa
open Go.RowKit Go.Maps
attribute [local go_sem] Oper.semAt_some

theorem slot_find (T : PT) (conn hh : Int) : (T.l.find? (fun x => decide (x.h = hh ∧ x.c = conn)) = none → T.slotW conn hh = (0, false)) ∧ ∀ x, T.l.find? (fun x => decide (x.h = hh ∧ x.c = conn)) = some x → T.slotW conn hh = (x.s, true) := by
  unfold PT.slotW PT.seek
  exact ⟨fun h => by rw [h], fun x h => by rw [h]⟩
/-- What stands between two rounds of the range over All. -/
structure SmI (w7 : World) (Y k : Nat) (l : List Int) (W : World) : Prop where
  box : ∃ A n c, Blk W (Y + 3) 37 #[.slice A n c] ∧ OwnE Try.eI W (Y + 6) (.slice A n c) (l.take k)
  turn : Turn [Y + 3] w7 W
set_option maxRecDepth 100000 in
set_option maxHeartbeats 8000000 in
theorem same_any_ (B p B2 r : Nat) (S S2 : List Nat) (T : PT) (R : RP) (x : OpP) (w : World) (hT : Tb w B p S T) (hR : Rb w B2 r S2 R) (hrel : Rel T R) (hw : x.wf) :
    Calls Try.prog 20 #[.pointer (some ⟨p, 0, none⟩), .pointer (some ⟨r, 0, none⟩), .agg #[.int .i64 x.kind, .int .i64 x.conn, .int .i64 x.slot, .int .i64 x.h, .int .i64 x.user, .bool x.rw]] w fun e w' => e = .returned (.bool true) ∧ Below w.heap.size w w' := by
  obtain ⟨X, hX⟩ : ∃ X, w.heap.size = X := ⟨_, rfl⟩
  obtain ⟨wA, hwA⟩ : ∃ wA, w.alloc (.cells #[.int .i64 x.kind, .int .i64 x.conn, .int .i64 x.slot, .int .i64 x.h, .int .i64 x.user, .bool x.rw] 32) = wA := ⟨_, rfl⟩
  have bA : Blk wA X 32 #[.int .i64 x.kind, .int .i64 x.conn, .int .i64 x.slot, .int .i64 x.h, .int .i64 x.user, .bool x.rw] := by rw [← hwA, ← hX]; exact Blk.new _ _ _
  have hbA : Below w.heap.size w wA := by rw [← hwA]; exact (Below.refl _ _).alloc (Nat.le_refl _) _
  have H := Lib.hid (And.intro (hT.below hbA) (And.intro (hR.below hbA) (And.intro hrel (And.intro hw (And.intro bA (And.intro hbA hX))))))
  have g0 := bA.cell 0
  have g1 := bA.cell 1
  have g2 := bA.cell 2
  have g3 := bA.cell 3
  have g4 := bA.cell 4
  have g5 := bA.cell 5
  simp only [List.getElem?_toArray, List.getElem?_cons_succ, List.getElem?_cons_zero] at g0 g1 g2 g3 g4 g5
  clear hT hR hrel hw bA hbA
  have hfi := rfind_any B2 r S2 R x.conn x.h wA H.out.2.1
  have hsl := slot_any B p S T x.conn x.h wA H.out.1
  obtain ⟨st, hst'⟩ : ∃ st, T.stateW x.conn x.h = st := ⟨_, rfl⟩
  have hst : ∀ wq, Below wA.heap.size wA wq → Calls Try.prog 21 #[.pointer (some ⟨p, 0, none⟩), .int .i64 x.conn, .int .i64 x.h] wq fun e w' => e = .returned (.int .i64 st) ∧ Below wq.heap.size wq w' := fun wq hq => by
    have := state_any B p S T x.conn x.h wq (H.out.1.below hq)
    rwa [hst'] at this
  have hrs : ∀ wq, Below wA.heap.size wA wq → Calls Try.prog 38 #[.pointer (some ⟨r, 0, none⟩), .int .i64 x.conn, .int .i64 x.h] wq fun e w' => e = .returned (.int .i64 st) ∧ Below wq.heap.size wq w' := fun wq hq => by
    have := rstate_any B2 r S2 R x.conn x.h wq (H.out.2.1.below hq)
    rwa [H.out.2.2.1.state, hst'] at this
  obtain ⟨us, hus⟩ : ∃ us, T.usedW x.slot = us := ⟨_, rfl⟩
  have hut : ∀ wq, Below wA.heap.size wA wq → Calls Try.prog 24 #[.pointer (some ⟨p, 0, none⟩), .int .i64 x.slot] wq fun e w' => e = .returned (.bool us) ∧ Below wq.heap.size wq w' := fun wq hq => by
    have := used_any B p S T x.slot wq (H.out.1.below hq)
    rwa [hus] at this
  have hur : ∀ wq, Below wA.heap.size wA wq → Calls Try.prog 39 #[.pointer (some ⟨r, 0, none⟩), .int .i64 x.slot] wq fun e w' => e = .returned (.bool us) ∧ wq = w' := fun wq hq => by
    have := rused_any B2 r S2 R x.slot wq (H.out.2.1.below hq)
    rwa [H.out.2.2.1.used, hus] at this
  obtain ⟨ma, hma⟩ : ∃ ma, T.mayW x.conn x.slot x.user = ma := ⟨_, rfl⟩
  have hmt : ∀ wq, Below wA.heap.size wA wq → Calls Try.prog 25 #[.pointer (some ⟨p, 0, none⟩), .int .i64 x.conn, .int .i64 x.slot, .int .i64 x.user] wq fun e w' => e = .returned (.int .i64 ma) ∧ Below wq.heap.size wq w' := fun wq hq => by
    have := may_any B p S T x.conn x.slot x.user wq (H.out.1.below hq) H.out.2.2.2.1.2.1 H.out.2.2.2.1.2.2.1
    rwa [hma] at this
  have hmr : ∀ wq, Below wA.heap.size wA wq → Calls Try.prog 37 #[.pointer (some ⟨r, 0, none⟩), .int .i64 x.conn, .int .i64 x.slot, .int .i64 x.user] wq fun e w' => e = .returned (.int .i64 ma) ∧ wq = w' := fun wq hq => by
    have := rmay_any B2 r S2 R x.conn x.slot x.user wq (H.out.2.1.below hq)
    rwa [H.out.2.2.1.may, hma] at this
  have HC := Lib.hid (And.intro hfi (And.intro hsl (And.intro hst (And.intro hrs (And.intro hut (And.intro hur (And.intro hmt hmr)))))))
  clear hfi hsl hst hrs hut hur hmt hmr hst' hus hma
  refine calls_of_marks Try.func20 rfl ?_
  simp only [Try.ntmps20, List.size_toArray, List.length_cons, List.length_nil, Nat.reduceAdd, Nat.reduceSub, Array.replicate_succ, Array.replicate_zero, List.push_toArray, List.append_toArray, List.nil_append, List.cons_append]
  go_wp2_with fail
  try rw [hwA]
  try rw [hX]
  refine HC.out.1.mono ?_
  rintro e w1 ⟨⟨v, rfl, hv⟩, rfl⟩
  obtain ⟨A, m, c, A2, m2, c2, hRA, hRS⟩ := H.out.2.1
  obtain ⟨q0, q1, q2⟩ := hRA.cells
  have hRl := H.out.2.2.1.l
  have HRA := Lib.hid (And.intro hRA hRS)
  have hm1000 : m ≤ 1000 := by rw [hRA.row.len]; exact hRA.s1
  clear hRA hRS
  rcases hv with ⟨rfl, hn⟩ | ⟨k, y, rfl, hy, hs, he⟩
  · have hsw := (slot_find T x.conn x.h).1 (by rw [← hRl]; exact hn)
    have hsl := HC.out.2.1
    rw [hsw] at hsl
    have HS := Lib.hid hsl
    clear hsl hn hsw hRl
    go_wp2_with fail
    refine HS.out.mono ?_
    rintro e w1' ⟨rfl, hw1'⟩
    subst hw1'
    go_wp2_with fail
    clear g0 g1 g2 g3 g4 g5
    have HA0 := Lib.hid (Below.refl wA.heap.size wA)
    refine region_old (by kernel_rfl) (fun wd hHeld hSz => ?_)
    have HSz := Lib.hid hSz
    clear hSz
    refine takeL (i := 0) (v := ?_) rfl (by kernel_rfl) (by kernel_rfl) (by kernel_rfl) (fun _ _ _ h => h) (Or.inl ⟨by rfl, ?_⟩) hHeld ?_
    rotate_left
    focus (intro wq hSw; clear hSw; go_simp; try with_reducible rfl)
    try simp only [Act.put, List.setIfInBounds_toArray, List.set_cons_zero, List.set_cons_succ]
    refine takeL (i := 1) (v := ?_) rfl (by kernel_rfl) (by kernel_rfl) (by kernel_rfl) (fun _ _ _ h => h) (Or.inl ⟨by rfl, ?_⟩) hHeld ?_
    rotate_left
    focus (intro wq hSw; clear hSw; go_simp; try with_reducible rfl)
    try simp only [Act.put, List.setIfInBounds_toArray, List.set_cons_zero, List.set_cons_succ]
    refine takeL (i := 2) (v := ?_) rfl (by kernel_rfl) (by kernel_rfl) (by kernel_rfl) (fun _ _ _ h => h) (Or.inl ⟨by rfl, ?_⟩) hHeld ?_
    rotate_left
    focus (intro wq hSw; clear hSw; go_simp; try with_reducible rfl)
    try simp only [Act.put, List.setIfInBounds_toArray, List.set_cons_zero, List.set_cons_succ]
    refine takeL (i := 3) (v := ?_) rfl (by kernel_rfl) (by kernel_rfl) (by kernel_rfl) (fun _ _ _ h => h) (Or.inl ⟨by rfl, ?_⟩) hHeld ?_
    rotate_left
    focus (intro wq hSw; clear hSw; go_simp; try with_reducible rfl)
    try simp only [Act.put, List.setIfInBounds_toArray, List.set_cons_zero, List.set_cons_succ]
    refine takeL (i := 4) (v := ?_) rfl (by kernel_rfl) (by kernel_rfl) (by kernel_rfl) (fun _ _ _ h => h) (Or.inl ⟨by rfl, ?_⟩) hHeld ?_
    rotate_left
    focus (intro wq hSw; clear hSw; go_simp; try with_reducible rfl)
    try simp only [Act.put, List.setIfInBounds_toArray, List.set_cons_zero, List.set_cons_succ]
    refine takeL (i := 5) (v := ?_) rfl (by kernel_rfl) (by kernel_rfl) (by kernel_rfl) (fun _ _ _ h => h) (Or.inl ⟨by rfl, ?_⟩) hHeld ?_
    rotate_left
    focus (intro wq hSw; clear hSw; go_simp; try with_reducible rfl)
    try simp only [Act.put, List.setIfInBounds_toArray, List.set_cons_zero, List.set_cons_succ]
    refine takeL (i := 6) (v := ?_) rfl (by kernel_rfl) (by kernel_rfl) (by kernel_rfl) (fun _ _ _ h => h) (Or.inl ⟨by rfl, ?_⟩) hHeld ?_
    rotate_left
    focus (intro wq hSw; clear hSw; go_simp; try with_reducible rfl)
    try simp only [Act.put, List.setIfInBounds_toArray, List.set_cons_zero, List.set_cons_succ]
    refine takeL (i := 7) (v := undef) rfl (by kernel_rfl) (by kernel_rfl) (by kernel_rfl) (fun _ _ _ h => h) (Or.inr ⟨by rfl, rfl⟩) hHeld ?_
    try simp only [Act.put, List.setIfInBounds_toArray, List.set_cons_zero, List.set_cons_succ]
    refine takeL (i := 8) (v := undef) rfl (by kernel_rfl) (by kernel_rfl) (by kernel_rfl) (fun _ _ _ h => h) (Or.inr ⟨by rfl, rfl⟩) hHeld ?_
    try simp only [Act.put, List.setIfInBounds_toArray, List.set_cons_zero, List.set_cons_succ]
    refine takeL (i := 9) (v := undef) rfl (by kernel_rfl) (by kernel_rfl) (by kernel_rfl) (fun _ _ _ h => h) (Or.inr ⟨by rfl, rfl⟩) hHeld ?_
    try simp only [Act.put, List.setIfInBounds_toArray, List.set_cons_zero, List.set_cons_succ]
    refine takeL (i := 10) (v := undef) rfl (by kernel_rfl) (by kernel_rfl) (by kernel_rfl) (fun _ _ _ h => h) (Or.inr ⟨by rfl, rfl⟩) hHeld ?_
    try simp only [Act.put, List.setIfInBounds_toArray, List.set_cons_zero, List.set_cons_succ]
    refine takeL (i := 11) (v := undef) rfl (by kernel_rfl) (by kernel_rfl) (by kernel_rfl) (fun _ _ _ h => h) (Or.inr ⟨by rfl, rfl⟩) hHeld ?_
    try simp only [Act.put, List.setIfInBounds_toArray, List.set_cons_zero, List.set_cons_succ]
    refine takeL (i := 12) (v := undef) rfl (by kernel_rfl) (by kernel_rfl) (by kernel_rfl) (fun _ _ _ h => h) (Or.inr ⟨by rfl, rfl⟩) hHeld ?_
    try simp only [Act.put, List.setIfInBounds_toArray, List.set_cons_zero, List.set_cons_succ]
    refine takeL (i := 13) (v := undef) rfl (by kernel_rfl) (by kernel_rfl) (by kernel_rfl) (fun _ _ _ h => h) (Or.inr ⟨by rfl, rfl⟩) hHeld ?_
    try simp only [Act.put, List.setIfInBounds_toArray, List.set_cons_zero, List.set_cons_succ]
    refine takeL (i := 14) (v := undef) rfl (by kernel_rfl) (by kernel_rfl) (by kernel_rfl) (fun _ _ _ h => h) (Or.inr ⟨by rfl, rfl⟩) hHeld ?_
    try simp only [Act.put, List.setIfInBounds_toArray, List.set_cons_zero, List.set_cons_succ]
    refine takeL (i := 15) (v := undef) rfl (by kernel_rfl) (by kernel_rfl) (by kernel_rfl) (fun _ _ _ h => h) (Or.inr ⟨by rfl, rfl⟩) hHeld ?_
    try simp only [Act.put, List.setIfInBounds_toArray, List.set_cons_zero, List.set_cons_succ]
    refine takeL (i := 16) (v := undef) rfl (by kernel_rfl) (by kernel_rfl) (by kernel_rfl) (fun _ _ _ h => h) (Or.inr ⟨by rfl, rfl⟩) hHeld ?_
    try simp only [Act.put, List.setIfInBounds_toArray, List.set_cons_zero, List.set_cons_succ]
    refine takeL (i := 17) (v := ?_) rfl (by kernel_rfl) (by kernel_rfl) (by kernel_rfl) (fun _ _ _ h => h) (Or.inl ⟨by rfl, ?_⟩) hHeld ?_
    rotate_left
    focus (intro wq hSw; clear hSw; go_simp; try with_reducible rfl)
    try simp only [Act.put, List.setIfInBounds_toArray, List.set_cons_zero, List.set_cons_succ]
    refine takeL (i := 18) (v := ?_) rfl (by kernel_rfl) (by kernel_rfl) (by kernel_rfl) (fun _ _ _ h => h) (Or.inl ⟨by rfl, ?_⟩) hHeld ?_
    rotate_left
    focus (intro wq hSw; clear hSw; go_simp; try with_reducible rfl)
    try simp only [Act.put, List.setIfInBounds_toArray, List.set_cons_zero, List.set_cons_succ]
    refine takeL (i := 19) (v := ?_) rfl (by kernel_rfl) (by kernel_rfl) (by kernel_rfl) (fun _ _ _ h => h) (Or.inl ⟨by rfl, ?_⟩) hHeld ?_
    rotate_left
    focus (intro wq hSw; clear hSw; go_simp; try with_reducible rfl)
    try simp only [Act.put, List.setIfInBounds_toArray, List.set_cons_zero, List.set_cons_succ]
    refine takeL (i := 20) (v := ?_) rfl (by kernel_rfl) (by kernel_rfl) (by kernel_rfl) (fun _ _ _ h => h) (Or.inl ⟨by rfl, ?_⟩) hHeld ?_
    rotate_left
    focus (intro wq hSw; clear hSw; go_simp; try with_reducible rfl)
    try simp only [Act.put, List.setIfInBounds_toArray, List.set_cons_zero, List.set_cons_succ]
    refine takeL (i := 21) (v := ?_) rfl (by kernel_rfl) (by kernel_rfl) (by kernel_rfl) (fun _ _ _ h => h) (Or.inl ⟨by rfl, ?_⟩) hHeld ?_
    rotate_left
    focus (intro wq hSw; clear hSw; go_simp; try with_reducible rfl)
    try simp only [Act.put, List.setIfInBounds_toArray, List.set_cons_zero, List.set_cons_succ]
    refine takeL (i := 22) (v := ?_) rfl (by kernel_rfl) (by kernel_rfl) (by kernel_rfl) (fun _ _ _ h => h) (Or.inl ⟨by rfl, ?_⟩) hHeld ?_
    rotate_left
    focus (intro wq hSw; clear hSw; go_simp; try with_reducible rfl)
    try simp only [Act.put, List.setIfInBounds_toArray, List.set_cons_zero, List.set_cons_succ]
    refine takeL (i := 23) (v := ?_) rfl (by kernel_rfl) (by kernel_rfl) (by kernel_rfl) (fun _ _ _ h => h) (Or.inl ⟨by rfl, ?_⟩) hHeld ?_
    rotate_left
    focus (intro wq hSw; clear hSw; go_simp; try with_reducible rfl)
    try simp only [Act.put, List.setIfInBounds_toArray, List.set_cons_zero, List.set_cons_succ]
    refine takeL (i := 24) (v := ?_) rfl (by kernel_rfl) (by kernel_rfl) (by kernel_rfl) (fun _ _ _ h => h) (Or.inl ⟨by rfl, ?_⟩) hHeld ?_
    rotate_left
    focus (intro wq hSw; clear hSw; go_simp; try with_reducible rfl)
    try simp only [Act.put, List.setIfInBounds_toArray, List.set_cons_zero, List.set_cons_succ]
    refine takeL (i := 25) (v := ?_) rfl (by kernel_rfl) (by kernel_rfl) (by kernel_rfl) (fun _ _ _ h => h) (Or.inl ⟨by rfl, ?_⟩) hHeld ?_
    rotate_left
    focus (intro wq hSw; clear hSw; go_simp; try with_reducible rfl)
    try simp only [Act.put, List.setIfInBounds_toArray, List.set_cons_zero, List.set_cons_succ]
    refine takeL (i := 26) (v := ?_) rfl (by kernel_rfl) (by kernel_rfl) (by kernel_rfl) (fun _ _ _ h => h) (Or.inl ⟨by rfl, ?_⟩) hHeld ?_
    rotate_left
    focus (intro wq hSw; clear hSw; go_simp; try with_reducible rfl)
    try simp only [Act.put, List.setIfInBounds_toArray, List.set_cons_zero, List.set_cons_succ]
    refine takeL (i := 27) (v := ?_) rfl (by kernel_rfl) (by kernel_rfl) (by kernel_rfl) (fun _ _ _ h => h) (Or.inl ⟨by rfl, ?_⟩) hHeld ?_
    rotate_left
    focus (intro wq hSw; clear hSw; go_simp; try with_reducible rfl)
    try simp only [Act.put, List.setIfInBounds_toArray, List.set_cons_zero, List.set_cons_succ]
    refine takeL (i := 28) (v := ?_) rfl (by kernel_rfl) (by kernel_rfl) (by kernel_rfl) (fun _ _ _ h => h) (Or.inl ⟨by rfl, ?_⟩) hHeld ?_
    rotate_left
    focus (intro wq hSw; clear hSw; go_simp; try with_reducible rfl)
    try simp only [Act.put, List.setIfInBounds_toArray, List.set_cons_zero, List.set_cons_succ]
    refine takeL (i := 29) (v := ?_) rfl (by kernel_rfl) (by kernel_rfl) (by kernel_rfl) (fun _ _ _ h => h) (Or.inl ⟨by rfl, ?_⟩) hHeld ?_
    rotate_left
    focus (intro wq hSw; clear hSw; go_simp; try with_reducible rfl)
    try simp only [Act.put, List.setIfInBounds_toArray, List.set_cons_zero, List.set_cons_succ]
    refine takeL (i := 30) (v := ?_) rfl (by kernel_rfl) (by kernel_rfl) (by kernel_rfl) (fun _ _ _ h => h) (Or.inl ⟨by rfl, ?_⟩) hHeld ?_
    rotate_left
    focus (intro wq hSw; have gb1 := ((H.out.2.2.2.2.1.below (Below.refl wA.heap.size wA)).below hSw).cell 1; have gb2 := ((H.out.2.2.2.2.1.below (Below.refl wA.heap.size wA)).below hSw).cell 2; have gb3 := ((H.out.2.2.2.2.1.below (Below.refl wA.heap.size wA)).below hSw).cell 3; have gb4 := ((H.out.2.2.2.2.1.below (Below.refl wA.heap.size wA)).below hSw).cell 4; simp only [List.getElem?_toArray, List.getElem?_cons_succ, List.getElem?_cons_zero] at gb1 gb2 gb3 gb4; clear hSw; go_simp; try with_reducible rfl)
    try simp only [Act.put, List.setIfInBounds_toArray, List.set_cons_zero, List.set_cons_succ]
    refine takeL (i := 31) (v := ?_) rfl (by kernel_rfl) (by kernel_rfl) (by kernel_rfl) (fun _ _ _ h => h) (Or.inl ⟨by rfl, ?_⟩) hHeld ?_
    rotate_left
    focus (intro wq hSw; clear hSw; go_simp; try with_reducible rfl)
    try simp only [Act.put, List.setIfInBounds_toArray, List.set_cons_zero, List.set_cons_succ]
    refine takeL (i := 32) (v := ?_) rfl (by kernel_rfl) (by kernel_rfl) (by kernel_rfl) (fun _ _ _ h => h) (Or.inl ⟨by rfl, ?_⟩) hHeld ?_
    rotate_left
    focus (intro wq hSw; have gb1 := ((H.out.2.2.2.2.1.below (Below.refl wA.heap.size wA)).below hSw).cell 1; have gb2 := ((H.out.2.2.2.2.1.below (Below.refl wA.heap.size wA)).below hSw).cell 2; have gb3 := ((H.out.2.2.2.2.1.below (Below.refl wA.heap.size wA)).below hSw).cell 3; have gb4 := ((H.out.2.2.2.2.1.below (Below.refl wA.heap.size wA)).below hSw).cell 4; simp only [List.getElem?_toArray, List.getElem?_cons_succ, List.getElem?_cons_zero] at gb1 gb2 gb3 gb4; clear hSw; go_simp; try with_reducible rfl)
    try simp only [Act.put, List.setIfInBounds_toArray, List.set_cons_zero, List.set_cons_succ]
    refine takeL (i := 34) (v := ?_) rfl (by kernel_rfl) (by kernel_rfl) (by kernel_rfl) (fun _ _ _ h => h) (Or.inl ⟨by rfl, ?_⟩) hHeld ?_
    rotate_left
    focus (intro wq hSw; clear hSw; go_simp; try with_reducible rfl)
    try simp only [Act.put, List.setIfInBounds_toArray, List.set_cons_zero, List.set_cons_succ]
    refine takeL (i := 35) (v := ?_) rfl (by kernel_rfl) (by kernel_rfl) (by kernel_rfl) (fun _ _ _ h => h) (Or.inl ⟨by rfl, ?_⟩) hHeld ?_
    rotate_left
    focus (intro wq hSw; clear hSw; go_simp; try with_reducible rfl)
    try simp only [Act.put, List.setIfInBounds_toArray, List.set_cons_zero, List.set_cons_succ]
    refine takeL (i := 36) (v := ?_) rfl (by kernel_rfl) (by kernel_rfl) (by kernel_rfl) (fun _ _ _ h => h) (Or.inl ⟨by rfl, ?_⟩) hHeld ?_
    rotate_left
    focus (intro wq hSw; have gb1 := ((H.out.2.2.2.2.1.below (Below.refl wA.heap.size wA)).below hSw).cell 1; have gb2 := ((H.out.2.2.2.2.1.below (Below.refl wA.heap.size wA)).below hSw).cell 2; have gb3 := ((H.out.2.2.2.2.1.below (Below.refl wA.heap.size wA)).below hSw).cell 3; have gb4 := ((H.out.2.2.2.2.1.below (Below.refl wA.heap.size wA)).below hSw).cell 4; simp only [List.getElem?_toArray, List.getElem?_cons_succ, List.getElem?_cons_zero] at gb1 gb2 gb3 gb4; clear hSw; go_simp; try with_reducible rfl)
    try simp only [Act.put, List.setIfInBounds_toArray, List.set_cons_zero, List.set_cons_succ]
    refine takeL (i := 37) (v := ?_) rfl (by kernel_rfl) (by kernel_rfl) (by kernel_rfl) (fun _ _ _ h => h) (Or.inl ⟨by rfl, ?_⟩) hHeld ?_
    rotate_left
    focus (intro wq hSw; clear hSw; go_simp; try with_reducible rfl)
    try simp only [Act.put, List.setIfInBounds_toArray, List.set_cons_zero, List.set_cons_succ]
    refine takeL (i := 38) (v := ?_) rfl (by kernel_rfl) (by kernel_rfl) (by kernel_rfl) (fun _ _ _ h => h) (Or.inl ⟨by rfl, ?_⟩) hHeld ?_
    rotate_left
    focus (intro wq hSw; have gb1 := ((H.out.2.2.2.2.1.below (Below.refl wA.heap.size wA)).below hSw).cell 1; have gb2 := ((H.out.2.2.2.2.1.below (Below.refl wA.heap.size wA)).below hSw).cell 2; have gb3 := ((H.out.2.2.2.2.1.below (Below.refl wA.heap.size wA)).below hSw).cell 3; have gb4 := ((H.out.2.2.2.2.1.below (Below.refl wA.heap.size wA)).below hSw).cell 4; simp only [List.getElem?_toArray, List.getElem?_cons_succ, List.getElem?_cons_zero] at gb1 gb2 gb3 gb4; clear hSw; go_simp; try with_reducible rfl)
    try simp only [Act.put, List.setIfInBounds_toArray, List.set_cons_zero, List.set_cons_succ]
    refine wpAnyH_ready (rs := [33]) (by kernel_rfl) (by simp) ?_
    refine consL rfl (fun K hK => ?_) AllReadyH.nil
    go_simp
    refine (HC.out.2.2.1 wd hHeld).mono ?_
    rintro e w2 ⟨rfl, hb2⟩
    have hb2' : Old wA w2 := Old.trans hHeld hb2
    have HB2 := Lib.hid hb2'
    clear hb2
    refine hK.out _ _ hb2' (fun hHeld => ?_)
    clear hK K
    try simp only [Act.put, List.setIfInBounds_toArray, List.set_cons_zero, List.set_cons_succ]
    refine wpAnyH_old (w1 := w2) hb2' (fun hHeld => ?_) (Old.refl _)
    refine wpAnyH_ready (rs := [39]) (by kernel_rfl) (by simp) ?_
    refine consL rfl (fun K hK => ?_) AllReadyH.nil
    go_simp
    refine (HC.out.2.2.2.1 w2 HB2.out).mono ?_
    rintro e w3 ⟨rfl, hb3⟩
    have hb3' : Old w2 w3 := hb3
    have HB3 := Lib.hid (Old.trans HB2.out hb3)
    clear hb3
    refine hK.out _ _ hb3' (fun hHeld => ?_)
    clear hK K
    try simp only [Act.put, List.setIfInBounds_toArray, List.set_cons_zero, List.set_cons_succ]
    refine wpAnyH_old (w1 := w3) hb3' (fun hHeld => ?_) (Old.refl _)
    refine takeL (i := 40) (v := ?_) rfl (by kernel_rfl) (by kernel_rfl) (by kernel_rfl) (fun _ _ _ h => h) (Or.inl ⟨by rfl, ?_⟩) hHeld ?_
    rotate_left
    focus (intro wq hSw; clear hSw; go_simp; try with_reducible rfl)
    try simp only [Act.put, List.setIfInBounds_toArray, List.set_cons_zero, List.set_cons_succ]
    refine takeL (i := 41) (v := ?_) rfl (by kernel_rfl) (by kernel_rfl) (by kernel_rfl) (fun _ _ _ h => h) (Or.inl ⟨by rfl, ?_⟩) hHeld ?_
    rotate_left
    focus (intro wq hSw; clear hSw; go_simp; try with_reducible rfl)
    try simp only [Act.put, List.setIfInBounds_toArray, List.set_cons_zero, List.set_cons_succ]
    refine takeL (i := 42) (v := ?_) rfl (by kernel_rfl) (by kernel_rfl) (by kernel_rfl) (fun _ _ _ h => h) (Or.inl ⟨by rfl, ?_⟩) hHeld ?_
    rotate_left
    focus (intro wq hSw; clear hSw; go_simp; try with_reducible rfl)
    try simp only [Act.put, List.setIfInBounds_toArray, List.set_cons_zero, List.set_cons_succ]
    refine takeL (i := 43) (v := ?_) rfl (by kernel_rfl) (by kernel_rfl) (by kernel_rfl) (fun _ _ _ h => h) (Or.inl ⟨by rfl, ?_⟩) hHeld ?_
    rotate_left
    focus (intro wq hSw; clear hSw; go_simp; try with_reducible rfl)
    try simp only [Act.put, List.setIfInBounds_toArray, List.set_cons_zero, List.set_cons_succ]
    refine takeL (i := 44) (v := ?_) rfl (by kernel_rfl) (by kernel_rfl) (by kernel_rfl) (fun _ _ _ h => h) (Or.inl ⟨by rfl, ?_⟩) hHeld ?_
    rotate_left
    focus (intro wq hSw; clear hSw; go_simp; try with_reducible rfl)
    try simp only [Act.put, List.setIfInBounds_toArray, List.set_cons_zero, List.set_cons_succ]
    refine takeL (i := 45) (v := ?_) rfl (by kernel_rfl) (by kernel_rfl) (by kernel_rfl) (fun _ _ _ h => h) (Or.inl ⟨by rfl, ?_⟩) hHeld ?_
    rotate_left
    focus (intro wq hSw; have gb1 := ((H.out.2.2.2.2.1.below HB3.out).below hSw).cell 1; have gb2 := ((H.out.2.2.2.2.1.below HB3.out).below hSw).cell 2; have gb3 := ((H.out.2.2.2.2.1.below HB3.out).below hSw).cell 3; have gb4 := ((H.out.2.2.2.2.1.below HB3.out).below hSw).cell 4; simp only [List.getElem?_toArray, List.getElem?_cons_succ, List.getElem?_cons_zero] at gb1 gb2 gb3 gb4; clear hSw; go_simp; try with_reducible rfl)
    try simp only [Act.put, List.setIfInBounds_toArray, List.set_cons_zero, List.set_cons_succ]
    refine takeL (i := 47) (v := ?_) rfl (by kernel_rfl) (by kernel_rfl) (by kernel_rfl) (fun _ _ _ h => h) (Or.inl ⟨by rfl, ?_⟩) hHeld ?_
    rotate_left
    focus (intro wq hSw; clear hSw; go_simp; try with_reducible rfl)
    try simp only [Act.put, List.setIfInBounds_toArray, List.set_cons_zero, List.set_cons_succ]
    refine takeL (i := 48) (v := ?_) rfl (by kernel_rfl) (by kernel_rfl) (by kernel_rfl) (fun _ _ _ h => h) (Or.inl ⟨by rfl, ?_⟩) hHeld ?_
    rotate_left
    focus (intro wq hSw; clear hSw; go_simp; try with_reducible rfl)
    try simp only [Act.put, List.setIfInBounds_toArray, List.set_cons_zero, List.set_cons_succ]
    refine takeL (i := 49) (v := ?_) rfl (by kernel_rfl) (by kernel_rfl) (by kernel_rfl) (fun _ _ _ h => h) (Or.inl ⟨by rfl, ?_⟩) hHeld ?_
    rotate_left
    focus (intro wq hSw; have gb1 := ((H.out.2.2.2.2.1.below HB3.out).below hSw).cell 1; have gb2 := ((H.out.2.2.2.2.1.below HB3.out).below hSw).cell 2; have gb3 := ((H.out.2.2.2.2.1.below HB3.out).below hSw).cell 3; have gb4 := ((H.out.2.2.2.2.1.below HB3.out).below hSw).cell 4; simp only [List.getElem?_toArray, List.getElem?_cons_succ, List.getElem?_cons_zero] at gb1 gb2 gb3 gb4; clear hSw; go_simp; try with_reducible rfl)
    try simp only [Act.put, List.setIfInBounds_toArray, List.set_cons_zero, List.set_cons_succ]
    refine wpAnyH_ready (rs := [46]) (by kernel_rfl) (by simp) ?_
    refine consL rfl (fun K hK => ?_) AllReadyH.nil
    go_simp
    refine (HC.out.2.2.2.2.1 w3 HB3.out).mono ?_
    rintro e w4 ⟨rfl, hb4⟩
    have hb4' : Old w3 w4 := hb4
    have HB4 := Lib.hid (Old.trans HB3.out hb4)
    clear hb4
    refine hK.out _ _ hb4' (fun hHeld => ?_)
    clear hK K
    try simp only [Act.put, List.setIfInBounds_toArray, List.set_cons_zero, List.set_cons_succ]
    refine wpAnyH_old (w1 := w4) hb4' (fun hHeld => ?_) (Old.refl _)
    refine wpAnyH_ready (rs := [50]) (by kernel_rfl) (by simp) ?_
    refine consL rfl (fun K hK => ?_) AllReadyH.nil
    go_simp
    refine (HC.out.2.2.2.2.2.1 w4 HB4.out).mono ?_
    rintro e w4' ⟨rfl, hw4⟩
    subst hw4
    refine hK.out _ _ hHeld (fun hHeld => ?_)
    clear hK K
    try simp only [Act.put, List.setIfInBounds_toArray, List.set_cons_zero, List.set_cons_succ]
    refine takeL (i := 51) (v := ?_) rfl (by kernel_rfl) (by kernel_rfl) (by kernel_rfl) (fun _ _ _ h => h) (Or.inl ⟨by rfl, ?_⟩) hHeld ?_
    rotate_left
    focus (intro wq hSw; clear hSw; go_simp; try with_reducible rfl)
    try simp only [Act.put, List.setIfInBounds_toArray, List.set_cons_zero, List.set_cons_succ]
    refine takeL (i := 52) (v := ?_) rfl (by kernel_rfl) (by kernel_rfl) (by kernel_rfl) (fun _ _ _ h => h) (Or.inl ⟨by rfl, ?_⟩) hHeld ?_
    rotate_left
    focus (intro wq hSw; clear hSw; go_simp; try with_reducible rfl)
    try simp only [Act.put, List.setIfInBounds_toArray, List.set_cons_zero, List.set_cons_succ]
    refine takeL (i := 53) (v := ?_) rfl (by kernel_rfl) (by kernel_rfl) (by kernel_rfl) (fun _ _ _ h => h) (Or.inl ⟨by rfl, ?_⟩) hHeld ?_
    rotate_left
    focus (intro wq hSw; clear hSw; go_simp; try with_reducible rfl)
    try simp only [Act.put, List.setIfInBounds_toArray, List.set_cons_zero, List.set_cons_succ]
    refine takeL (i := 54) (v := ?_) rfl (by kernel_rfl) (by kernel_rfl) (by kernel_rfl) (fun _ _ _ h => h) (Or.inl ⟨by rfl, ?_⟩) hHeld ?_
    rotate_left
    focus (intro wq hSw; clear hSw; go_simp; try with_reducible rfl)
    try simp only [Act.put, List.setIfInBounds_toArray, List.set_cons_zero, List.set_cons_succ]
    refine takeL (i := 55) (v := ?_) rfl (by kernel_rfl) (by kernel_rfl) (by kernel_rfl) (fun _ _ _ h => h) (Or.inl ⟨by rfl, ?_⟩) hHeld ?_
    rotate_left
    focus (intro wq hSw; clear hSw; go_simp; try with_reducible rfl)
    try simp only [Act.put, List.setIfInBounds_toArray, List.set_cons_zero, List.set_cons_succ]
    refine takeL (i := 56) (v := ?_) rfl (by kernel_rfl) (by kernel_rfl) (by kernel_rfl) (fun _ _ _ h => h) (Or.inl ⟨by rfl, ?_⟩) hHeld ?_
    rotate_left
    focus (intro wq hSw; have gb1 := ((H.out.2.2.2.2.1.below HB4.out).below hSw).cell 1; have gb2 := ((H.out.2.2.2.2.1.below HB4.out).below hSw).cell 2; have gb3 := ((H.out.2.2.2.2.1.below HB4.out).below hSw).cell 3; have gb4 := ((H.out.2.2.2.2.1.below HB4.out).below hSw).cell 4; simp only [List.getElem?_toArray, List.getElem?_cons_succ, List.getElem?_cons_zero] at gb1 gb2 gb3 gb4; clear hSw; go_simp; try with_reducible rfl)
    try simp only [Act.put, List.setIfInBounds_toArray, List.set_cons_zero, List.set_cons_succ]
    refine takeL (i := 57) (v := ?_) rfl (by kernel_rfl) (by kernel_rfl) (by kernel_rfl) (fun _ _ _ h => h) (Or.inl ⟨by rfl, ?_⟩) hHeld ?_
    rotate_left
    focus (intro wq hSw; clear hSw; go_simp; try with_reducible rfl)
    try simp only [Act.put, List.setIfInBounds_toArray, List.set_cons_zero, List.set_cons_succ]
    refine takeL (i := 58) (v := ?_) rfl (by kernel_rfl) (by kernel_rfl) (by kernel_rfl) (fun _ _ _ h => h) (Or.inl ⟨by rfl, ?_⟩) hHeld ?_
    rotate_left
    focus (intro wq hSw; have gb1 := ((H.out.2.2.2.2.1.below HB4.out).below hSw).cell 1; have gb2 := ((H.out.2.2.2.2.1.below HB4.out).below hSw).cell 2; have gb3 := ((H.out.2.2.2.2.1.below HB4.out).below hSw).cell 3; have gb4 := ((H.out.2.2.2.2.1.below HB4.out).below hSw).cell 4; simp only [List.getElem?_toArray, List.getElem?_cons_succ, List.getElem?_cons_zero] at gb1 gb2 gb3 gb4; clear hSw; go_simp; try with_reducible rfl)
    try simp only [Act.put, List.setIfInBounds_toArray, List.set_cons_zero, List.set_cons_succ]
    refine takeL (i := 59) (v := ?_) rfl (by kernel_rfl) (by kernel_rfl) (by kernel_rfl) (fun _ _ _ h => h) (Or.inl ⟨by rfl, ?_⟩) hHeld ?_
    rotate_left
    focus (intro wq hSw; clear hSw; go_simp; try with_reducible rfl)
    try simp only [Act.put, List.setIfInBounds_toArray, List.set_cons_zero, List.set_cons_succ]
    refine takeL (i := 60) (v := ?_) rfl (by kernel_rfl) (by kernel_rfl) (by kernel_rfl) (fun _ _ _ h => h) (Or.inl ⟨by rfl, ?_⟩) hHeld ?_
    rotate_left
    focus (intro wq hSw; have gb1 := ((H.out.2.2.2.2.1.below HB4.out).below hSw).cell 1; have gb2 := ((H.out.2.2.2.2.1.below HB4.out).below hSw).cell 2; have gb3 := ((H.out.2.2.2.2.1.below HB4.out).below hSw).cell 3; have gb4 := ((H.out.2.2.2.2.1.below HB4.out).below hSw).cell 4; simp only [List.getElem?_toArray, List.getElem?_cons_succ, List.getElem?_cons_zero] at gb1 gb2 gb3 gb4; clear hSw; go_simp; try with_reducible rfl)
    try simp only [Act.put, List.setIfInBounds_toArray, List.set_cons_zero, List.set_cons_succ]
    refine takeL (i := 62) (v := ?_) rfl (by kernel_rfl) (by kernel_rfl) (by kernel_rfl) (fun _ _ _ h => h) (Or.inl ⟨by rfl, ?_⟩) hHeld ?_
    rotate_left
    focus (intro wq hSw; clear hSw; go_simp; try with_reducible rfl)
    try simp only [Act.put, List.setIfInBounds_toArray, List.set_cons_zero, List.set_cons_succ]
    refine takeL (i := 63) (v := ?_) rfl (by kernel_rfl) (by kernel_rfl) (by kernel_rfl) (fun _ _ _ h => h) (Or.inl ⟨by rfl, ?_⟩) hHeld ?_
    rotate_left
    focus (intro wq hSw; clear hSw; go_simp; try with_reducible rfl)
    try simp only [Act.put, List.setIfInBounds_toArray, List.set_cons_zero, List.set_cons_succ]
    refine takeL (i := 64) (v := ?_) rfl (by kernel_rfl) (by kernel_rfl) (by kernel_rfl) (fun _ _ _ h => h) (Or.inl ⟨by rfl, ?_⟩) hHeld ?_
    rotate_left
    focus (intro wq hSw; have gb1 := ((H.out.2.2.2.2.1.below HB4.out).below hSw).cell 1; have gb2 := ((H.out.2.2.2.2.1.below HB4.out).below hSw).cell 2; have gb3 := ((H.out.2.2.2.2.1.below HB4.out).below hSw).cell 3; have gb4 := ((H.out.2.2.2.2.1.below HB4.out).below hSw).cell 4; simp only [List.getElem?_toArray, List.getElem?_cons_succ, List.getElem?_cons_zero] at gb1 gb2 gb3 gb4; clear hSw; go_simp; try with_reducible rfl)
    try simp only [Act.put, List.setIfInBounds_toArray, List.set_cons_zero, List.set_cons_succ]
    refine takeL (i := 65) (v := ?_) rfl (by kernel_rfl) (by kernel_rfl) (by kernel_rfl) (fun _ _ _ h => h) (Or.inl ⟨by rfl, ?_⟩) hHeld ?_
    rotate_left
    focus (intro wq hSw; clear hSw; go_simp; try with_reducible rfl)
    try simp only [Act.put, List.setIfInBounds_toArray, List.set_cons_zero, List.set_cons_succ]
    refine takeL (i := 66) (v := ?_) rfl (by kernel_rfl) (by kernel_rfl) (by kernel_rfl) (fun _ _ _ h => h) (Or.inl ⟨by rfl, ?_⟩) hHeld ?_
    rotate_left
    focus (intro wq hSw; have gb1 := ((H.out.2.2.2.2.1.below HB4.out).below hSw).cell 1; have gb2 := ((H.out.2.2.2.2.1.below HB4.out).below hSw).cell 2; have gb3 := ((H.out.2.2.2.2.1.below HB4.out).below hSw).cell 3; have gb4 := ((H.out.2.2.2.2.1.below HB4.out).below hSw).cell 4; simp only [List.getElem?_toArray, List.getElem?_cons_succ, List.getElem?_cons_zero] at gb1 gb2 gb3 gb4; clear hSw; go_simp; try with_reducible rfl)
    try simp only [Act.put, List.setIfInBounds_toArray, List.set_cons_zero, List.set_cons_succ]
    refine takeL (i := 67) (v := ?_) rfl (by kernel_rfl) (by kernel_rfl) (by kernel_rfl) (fun _ _ _ h => h) (Or.inl ⟨by rfl, ?_⟩) hHeld ?_
    rotate_left
    focus (intro wq hSw; clear hSw; go_simp; try with_reducible rfl)
    try simp only [Act.put, List.setIfInBounds_toArray, List.set_cons_zero, List.set_cons_succ]
    refine takeL (i := 68) (v := ?_) rfl (by kernel_rfl) (by kernel_rfl) (by kernel_rfl) (fun _ _ _ h => h) (Or.inl ⟨by rfl, ?_⟩) hHeld ?_
    rotate_left
    focus (intro wq hSw; have gb1 := ((H.out.2.2.2.2.1.below HB4.out).below hSw).cell 1; have gb2 := ((H.out.2.2.2.2.1.below HB4.out).below hSw).cell 2; have gb3 := ((H.out.2.2.2.2.1.below HB4.out).below hSw).cell 3; have gb4 := ((H.out.2.2.2.2.1.below HB4.out).below hSw).cell 4; simp only [List.getElem?_toArray, List.getElem?_cons_succ, List.getElem?_cons_zero] at gb1 gb2 gb3 gb4; clear hSw; go_simp; try with_reducible rfl)
    try simp only [Act.put, List.setIfInBounds_toArray, List.set_cons_zero, List.set_cons_succ]
    refine wpAnyH_ready (rs := [61]) (by kernel_rfl) (by simp) ?_
    refine consL rfl (fun K hK => ?_) AllReadyH.nil
    go_simp
    refine (HC.out.2.2.2.2.2.2.1 w4 HB4.out).mono ?_
    rintro e w5 ⟨rfl, hb5⟩
    have hb5' : Old w4 w5 := hb5
    have HB5 := Lib.hid (Old.trans HB4.out hb5)
    clear hb5
    refine hK.out _ _ hb5' (fun hHeld => ?_)
    clear hK K
    try simp only [Act.put, List.setIfInBounds_toArray, List.set_cons_zero, List.set_cons_succ]
    refine wpAnyH_old (w1 := w5) hb5' (fun hHeld => ?_) (Old.refl _)
    refine wpAnyH_ready (rs := [69]) (by kernel_rfl) (by simp) ?_
    refine consL rfl (fun K hK => ?_) AllReadyH.nil
    go_simp
    refine (HC.out.2.2.2.2.2.2.2 w5 HB5.out).mono ?_
    rintro e w5' ⟨rfl, hw5⟩
    subst hw5
    refine hK.out _ _ hHeld (fun hHeld => ?_)
    clear hK K
    try simp only [Act.put, List.setIfInBounds_toArray, List.set_cons_zero, List.set_cons_succ]
    refine takeL (i := 70) (v := ?_) rfl (by kernel_rfl) (by kernel_rfl) (by kernel_rfl) (fun _ _ _ h => h) (Or.inl ⟨by rfl, ?_⟩) hHeld ?_
    rotate_left
    focus (intro wq hSw; clear hSw; go_simp; try with_reducible rfl)
    try simp only [Act.put, List.setIfInBounds_toArray, List.set_cons_zero, List.set_cons_succ]
    refine takeL (i := 71) (v := ?_) rfl (by kernel_rfl) (by kernel_rfl) (by kernel_rfl) (fun _ _ _ h => h) (Or.inl ⟨by rfl, ?_⟩) hHeld ?_
    rotate_left
    focus (intro wq hSw; clear hSw; go_simp; try with_reducible rfl)
    try simp only [Act.put, List.setIfInBounds_toArray, List.set_cons_zero, List.set_cons_succ]
    refine wpAnyH_done (by kernel_rfl) ?_ _
    refine NoPanic.normal ?_
    clear hHeld
    have H5 := Lib.hid (show Below wA.heap.size wA w5 from HB5.out)
    have g1 := (H.out.2.2.2.2.1.below H5.out).cell 1
    have g2 := (H.out.2.2.2.2.1.below H5.out).cell 2
    simp only [List.getElem?_toArray, List.getElem?_cons_succ, List.getElem?_cons_zero] at g1 g2
    go_wp2_with fail
    refine (all_any (some ⟨p, 0, none⟩) x.conn x.slot w5).mono ?_
    rintro e w6 ⟨rfl, hb6, k0, k1, k2, hs6⟩
    obtain ⟨Y, hY⟩ : ∃ Y, w5.heap.size = Y := ⟨_, rfl⟩
    rw [hY] at k0 k1 k2 hs6
    obtain ⟨At, mt, ct, mb, hTA, hTS⟩ := H.out.1
    have hge := (hTA.below H5.out).ge
    have hM6 : AllMine Y B p At mt ct mb T x.conn x.slot (Y + 3) 0 w6 := ⟨k0, k1, k2, (hTA.below H5.out).below hb6, by omega, fun y hy => by have := (hge y hy).2; omega⟩
    have hXY : X < Y := by have h1 := (H.out.2.2.2.2.1).lt; have h2 := H5.out.size; omega
    have hAY : wA.heap.size ≤ Y := by have h2 := H5.out.size; omega
    have H6 := Lib.hid (And.intro hM6 (And.intro (H5.out.trans (hb6.mono H5.out.size)) (And.intro hs6 (And.intro hXY hAY))))
    rw [hY]
    clear hb6 k0 k1 k2 hs6 hTA hTS hge hM6 hY hXY hAY g1 g2
    have hnn := notNilA #[.pointer (some ⟨Y, 0, none⟩), .pointer (some ⟨Y + 1, 0, none⟩), .pointer (some ⟨Y + 2, 0, none⟩)] w6
    go_wp2_with fail
    obtain ⟨w7, hw7⟩ : ∃ w7, w6.alloc (.cells #[.slice none 0 0] 37) = w7 := ⟨_, rfl⟩
    have hb7 : Below w6.heap.size w6 w7 := by rw [← hw7]; exact (Below.refl _ _).alloc (Nat.le_refl _) _
    have b7 : Blk w7 (Y + 3) 37 #[.slice none 0 0] := by rw [← hw7, ← H6.out.2.2.1]; exact Blk.new _ _ _
    have hs7 : w7.heap.size = Y + 4 := by rw [← hw7]; simp [H6.out.2.2.1]
    have hs6 := H6.out.2.2.1
    rw [hw7]
    try rw [hs6]
    obtain ⟨ls, hls⟩ : ∃ ls, (T.of x.conn x.slot).map PS.h = ls := ⟨_, rfl⟩
    have hll : ls.length = (T.of x.conn x.slot).length := by rw [← hls, List.length_map]
    have H7 := Lib.hid (And.intro (H6.out.1.turn (k' := 0) (Turn.of_below [] hb7) (by simp)) (And.intro (H6.out.2.1.trans (hb7.mono H6.out.2.1.size)) (And.intro hls (And.intro hll b7))))
    clear hw7 hb7 b7 hs6 hls hll
    refine wp_range1g 13 0 (gf := 40) (lb := #[.pointer (some ⟨Y, 0, none⟩), .pointer (some ⟨Y + 1, 0, none⟩), .pointer (some ⟨Y + 2, 0, none⟩)]) (T := []) rfl (fun _ _ => by kernel_rfl)
      (all_iter Y B p At mt ct mb T x.conn x.slot (Y + 3)) (fun k args W h => by obtain ⟨y, _, rfl⟩ := h; rfl) (by simp)
      (fun k W => SmI w7 Y k ls W)
      (fun _ _ _ => False)
      ?hI ?hIx ?hM ?hA ⟨⟨none, 0, 0, H7.out.2.2.2.2, OwnE.nil _ _⟩, Turn.refl _ _⟩ ?hM0 ?hM1 ?hassign ?hbody ?hdone ?hstop
    case hI =>
      rintro k W1 W2 S' ⟨⟨A9, n9, c9, h1, h2⟩, h3⟩ ht hS
      have hS' : ∀ t ∈ S', t = Y + 5 := by
        intro t h
        rcases hS t h with h | ⟨h, _⟩
        · cases h
        · omega
      exact ⟨⟨A9, n9, c9, h1.turn ht (fun h => by have := hS' _ h; omega), h2.turn ht (fun g hg hm => by have := hS' _ hm; have := (h2.lt hg).1; omega)⟩, h3.trans ht (fun y hy => .inr (by have := hS' _ hy; omega))⟩
    case hIx => rintro c k W1 W2 S h; exact h.elim
    case hM =>
      rintro k W1 W2 hM ⟨r, hr⟩ ht
      exact hM.turn ht (by simp; omega)
    case hA =>
      rintro k args W1 W2 h ⟨r, hr⟩ ht
      exact h
    case hM0 => exact H7.out.1
    case hM1 =>
      intro W ht
      exact H7.out.1.turn ht (by simp)
    case hassign =>
      rintro l' args k W K ⟨y, _, rfl⟩ hK
      simp at hK
      gi_wp2
      exact hK
    case hbody =>
      rintro l' k args W hkN hlt ⟨⟨A9, n9, c9, h1, h2⟩, h3⟩ hMi ⟨y, hy, rfl⟩
      have k0 := h1.cell 0
      have f0 := h1.frozen 0
      simp only [List.getElem?_toArray, List.getElem?_cons_zero] at k0
      have hal : Below W.heap.size W (W.alloc (.cells #[.int .i64 y.h] 3)) := (Below.refl _ _).alloc (Nat.le_refl _) _
      have hYW : Y + 6 ≤ W.heap.size := by omega
      have hyl : ls[k]? = some y.h := by rw [← H7.out.2.2.1, List.getElem?_map, hy]; rfl
      have hk1000 : (ls.take k).length ≤ 1000 := by have := H7.out.1.tab.small; have h5 := H7.out.2.2.2.1; have h6 : (T.of x.conn x.slot).length ≤ T.l.length := List.length_filter_le _ _; have h7 := List.length_take_le k ls; omega
      have hb := Lib.hid (And.intro h1 (And.intro h2 (And.intro h3 (And.intro hMi (And.intro hal (And.intro hyl hk1000))))))
      clear h1 h2 h3 hMi hal hyl hy hk1000
      gi_wp2_with (gi_at_builtin; go_must (refine wpListIn_appE Try.eI (.tmp 112) (.tmp 114) (Y + 6) (.slice A9 n9 c9) _ (hb.out.2.1.below hb.out.2.2.2.2.1) (by have := hb.out.2.2.2.2.1.size; omega) (some ⟨W.heap.size, 0, none⟩) 1 1 [y.h] (Blk.rdC Try.eI (Blk.new W 3 #[.int .i64 y.h]) rfl) (fun h => by cases h) (by have := hb.out.2.2.2.2.2.2; simp only [List.length_singleton]; omega) rfl rfl rfl rfl ?_); intro A8 n8 c8 w8 hG; have H8 := Lib.hid hG; clear hG; have b8 := (hb.out.1.below hb.out.2.2.2.2.1).keep (H8.out.grown.block _ (hb.out.1.below hb.out.2.2.2.2.1).lt (fun e => (hb.out.2.1.below hb.out.2.2.2.2.1).ne (hb.out.1.below hb.out.2.2.2.2.1) (by decide) e.symm)); have d8 := b8.cell 0; have f8 := b8.frozen 0; simp only [List.getElem?_toArray, List.getElem?_cons_zero] at d8; have HB8 := Lib.hid b8; clear b8)
      have hT8 : Turn ((Value.slice A9 n9 c9).ownBlock.toList) W w8 := (Turn.of_below _ hb.out.2.2.2.2.1).grown H8.out.grown (fun k hk => .inl (by rw [hk]; simp))
      have hTs : Turn [Y + 3] w8 (w8.setCell ⟨Y + 3, 0, none⟩ (.slice A8 n8 c8)) := (Turn.refl _ _).setCell (.inl (by simp)) _
      have hTT : Turn ((Y + 3) :: (Value.slice A9 n9 c9).ownBlock.toList) W (w8.setCell ⟨Y + 3, 0, none⟩ (.slice A8 n8 c8)) := (hT8.more (fun z hz => List.mem_cons_of_mem _ hz)).trans hTs (fun z hz => .inl (by simp at hz; subst hz; simp))
      have hog : ∀ g, (Value.slice A9 n9 c9).ownBlock = some g → Y + 6 ≤ g := fun g hg => (hb.out.2.1.lt hg).1
      have hin : ∀ z ∈ (Y + 3) :: (Value.slice A9 n9 c9).ownBlock.toList, z = Y + 3 ∨ Y + 6 ≤ z := fun z hz => by
        rcases List.mem_cons.1 hz with e | e
        · exact .inl e
        · exact .inr (hog z (by simpa using e))
      refine ⟨⟨_, hTT, fun hm => by rcases hin _ hm with e | e <;> omega, fun hm => by rcases hin _ hm with e | e <;> omega⟩, ⟨⟨A8, n8, c8, ?_, ?_⟩, hb.out.2.2.1.trans hTT (fun z hz => by rcases hin z hz with e | e; exact .inl (by simp [e]); exact .inr (by omega))⟩, hb.out.2.2.2.1.turn hTT (fun z hz => by rcases hin z hz with e | e <;> omega)⟩
      · have := HB8.out.set_ 0 (.slice A8 n8 c8)
        simpa using this
      · rw [List.take_add_one, hb.out.2.2.2.2.2.1]
        exact H8.out.own.turn hTs (fun g hg hm => by have := (H8.out.own.lt hg).1; simp at hm; omega)
    case hstop => rintro c k W _ _ h; exact h.elim
    case hdone =>
      rintro W hlt ⟨⟨A9, n9, c9, h1, h2⟩, h3⟩ hdf
      rw [List.take_of_length_le (by have := H7.out.2.2.2.1; omega)] at h2
      rw [hs7] at hdf
      have hBW : Below wA.heap.size wA W := below_turn H7.out.2.1 h3 (by simp; have := H6.out.2.2.2.2; omega) H7.out.2.1.size
      have k0 := h1.cell 0
      simp only [List.getElem?_toArray, List.getElem?_cons_zero] at k0
      have HW := Lib.hid (And.intro h1 (And.intro h2 (And.intro hBW (And.intro hdf hlt))))
      clear h1 h2 h3 hdf hBW
      have hRW := HRA.out.1.below HW.out.2.2.1
      obtain ⟨q0, q1, q2⟩ := hRW.cells
      have hml := hRW.row.rd.1
      have HRW := Lib.hid (And.intro hRW (And.intro hml (And.intro (H.out.2.2.2.2.1.below HW.out.2.2.1) H.out.2.2.1.l)))
      clear hRW hml
      obtain ⟨P, hP⟩ : ∃ P, (fun z : PS => decide (z.c = x.conn ∧ z.s = x.slot)) = P := ⟨_, rfl⟩
      have HP := Lib.hid hP
      clear hP
      go_wp2_with fail
      try rw [hs7]
      go_loopw [12, 14] (fun v kk wl => ∃ j : Nat, j ≤ m ∧ kk = .int .i64 (j : Int) ∧ ∃ A8 n8 c8, v = .slice A8 n8 c8 ∧ OwnE Try.eI wl W.heap.size (.slice A8 n8 c8) (((R.l.take j).filter P).map PS.h) ∧ Below W.heap.size W wl) (fun _ kk _ => m - (intOf kk).toNat)
      case atStart => exact ⟨0, by omega, rfl, none, 0, 0, rfl, OwnE.nil _ _, Below.refl _ _⟩
      case round =>
        obtain ⟨j, hj, rfl, A8, n8, c8, rfl, hO, hB⟩ := hrel
        have hRl := HRW.out.1.below hB
        clear q0 q1 q2
        obtain ⟨q0, q1, q2⟩ := hRl.cells
        have bX := HRW.out.2.2.1.below hB
        by_cases hltj : j < m
        · have hlti : (j : Int) < m := by omega
          have hltd : decide ((j : Int) < (m : Int)) = true := decide_eq_true hlti
          have hj0 : ¬ ((j : Int) < 0) := by omega
          obtain ⟨y, hy⟩ : ∃ y, R.l[j]? = some y := ⟨_, List.getElem?_eq_getElem (by rw [HRW.out.2.1]; exact hltj)⟩
          obtain ⟨gg, off, hAe, z0, z1, z2, z3⟩ := rsess_at hRl.row.rd hy
          have HQ := Lib.hid (And.intro hO (And.intro hB (And.intro hy (And.intro hRl (And.intro bX (And.intro z0 (And.intro z1 z2)))))))
          first | subst hAe | cases hAe
          clear hO hB hy hRl bX
          go_wp2_with fail
          by_cases h1 : y.c = x.conn
          · by_cases h2 : y.s = x.slot
            · skip
              have e1 : decide (y.c = x.conn) = true := decide_eq_true h1
              have e2 : decide (y.s = x.slot) = true := decide_eq_true h2
              refine region_old (by kernel_rfl) (fun wd hHeld hSz => ?_)
              have HSz := Lib.hid hSz
              clear hSz
              refine takeL (i := 0) (v := ?_) rfl (by kernel_rfl) (by kernel_rfl) (by kernel_rfl) (fun _ _ _ h => h) (Or.inl ⟨by rfl, ?_⟩) hHeld ?_
              rotate_left
              focus (intro wq hSw; clear hSw; go_simp; try with_reducible rfl)
              try simp only [Act.put, List.setIfInBounds_toArray, List.set_cons_zero, List.set_cons_succ]
              refine takeL (i := 1) (v := ?_) rfl (by kernel_rfl) (by kernel_rfl) (by kernel_rfl) (fun _ _ _ h => h) (Or.inl ⟨by rfl, ?_⟩) hHeld ?_
              rotate_left
              focus (intro wq hSw; clear hSw; go_simp; try with_reducible rfl)
              try simp only [Act.put, List.setIfInBounds_toArray, List.set_cons_zero, List.set_cons_succ]
              refine takeL (i := 2) (v := ?_) rfl (by kernel_rfl) (by kernel_rfl) (by kernel_rfl) (fun _ _ _ h => h) (Or.inl ⟨by rfl, ?_⟩) hHeld ?_
              rotate_left
              focus (intro wq hSw; clear hSw; go_simp; try with_reducible rfl)
              try simp only [Act.put, List.setIfInBounds_toArray, List.set_cons_zero, List.set_cons_succ]
              refine takeL (i := 3) (v := ?_) rfl (by kernel_rfl) (by kernel_rfl) (by kernel_rfl) (fun _ _ _ h => h) (Or.inl ⟨by rfl, ?_⟩) hHeld ?_
              rotate_left
              focus (intro wq hSw; obtain ⟨q0, _, _⟩ := (HQ.out.2.2.2.1.below hSw).cells; clear hSw; go_simp; try with_reducible rfl)
              try simp only [Act.put, List.setIfInBounds_toArray, List.set_cons_zero, List.set_cons_succ]
              refine takeL (i := 4) (v := ?_) rfl (by kernel_rfl) (by kernel_rfl) (by kernel_rfl) (fun _ _ _ h => h) (Or.inl ⟨by rfl, ?_⟩) hHeld ?_
              rotate_left
              focus (intro wq hSw; clear hSw; go_simp; try with_reducible rfl)
              try simp only [Act.put, List.setIfInBounds_toArray, List.set_cons_zero, List.set_cons_succ]
              refine takeL (i := 5) (v := ?_) rfl (by kernel_rfl) (by kernel_rfl) (by kernel_rfl) (fun _ _ _ h => h) (Or.inl ⟨by rfl, ?_⟩) hHeld ?_
              rotate_left
              focus (intro wq hSw; clear hSw; go_simp; try with_reducible rfl)
              try simp only [Act.put, List.setIfInBounds_toArray, List.set_cons_zero, List.set_cons_succ]
              refine takeL (i := 6) (v := ?_) rfl (by kernel_rfl) (by kernel_rfl) (by kernel_rfl) (fun _ _ _ h => h) (Or.inl ⟨by rfl, ?_⟩) hHeld ?_
              rotate_left
              focus (intro wq hSw; clear hSw; go_simp; try with_reducible rfl)
              try simp only [Act.put, List.setIfInBounds_toArray, List.set_cons_zero, List.set_cons_succ]
              refine takeL (i := 7) (v := ?_) rfl (by kernel_rfl) (by kernel_rfl) (by kernel_rfl) (fun _ _ _ h => h) (Or.inl ⟨by rfl, ?_⟩) hHeld ?_
              rotate_left
              focus (intro wq hSw; have z1 := (hSw.cell (p := ⟨gg, off + j * 4 + 1, none⟩) (cell_in HQ.out.2.2.2.2.2.2.1)).trans HQ.out.2.2.2.2.2.2.1; clear hSw; go_simp; try with_reducible rfl)
              try simp only [Act.put, List.setIfInBounds_toArray, List.set_cons_zero, List.set_cons_succ]
              refine takeL (i := 8) (v := ?_) rfl (by kernel_rfl) (by kernel_rfl) (by kernel_rfl) (fun _ _ _ h => h) (Or.inl ⟨by rfl, ?_⟩) hHeld ?_
              rotate_left
              focus (intro wq hSw; clear hSw; go_simp; try with_reducible rfl)
              try simp only [Act.put, List.setIfInBounds_toArray, List.set_cons_zero, List.set_cons_succ]
              refine takeL (i := 9) (v := ?_) rfl (by kernel_rfl) (by kernel_rfl) (by kernel_rfl) (fun _ _ _ h => h) (Or.inl ⟨by rfl, ?_⟩) hHeld ?_
              rotate_left
              focus (intro wq hSw; have gb1 := (HQ.out.2.2.2.2.1.below hSw).cell 1; have gb2 := (HQ.out.2.2.2.2.1.below hSw).cell 2; simp only [List.getElem?_toArray, List.getElem?_cons_succ, List.getElem?_cons_zero] at gb1 gb2; clear hSw; go_simp; try with_reducible rfl)
              try simp only [Act.put, List.setIfInBounds_toArray, List.set_cons_zero, List.set_cons_succ]
              refine takeL (i := 10) (v := ?_) rfl (by kernel_rfl) (by kernel_rfl) (by kernel_rfl) (fun _ _ _ h => h) (Or.inl ⟨by rfl, ?_⟩) hHeld ?_
              rotate_left
              focus (intro wq hSw; clear hSw; go_simp; try with_reducible rfl)
              try simp only [Act.put, List.setIfInBounds_toArray, List.set_cons_zero, List.set_cons_succ]
              refine takeL (i := 11) (v := ?_) rfl (by kernel_rfl) (by kernel_rfl) (by kernel_rfl) (fun _ _ _ h => h) (Or.inl ⟨by rfl, ?_⟩) hHeld ?_
              rotate_left
              focus (intro wq hSw; clear hSw; go_simp; try with_reducible rfl)
              try simp only [Act.put, List.setIfInBounds_toArray, List.set_cons_zero, List.set_cons_succ]
              refine takeL (i := 12) (v := ?_) rfl (by kernel_rfl) (by kernel_rfl) (by kernel_rfl) (fun _ _ _ h => h) (Or.inl ⟨by rfl, ?_⟩) hHeld ?_
              rotate_left
              focus (intro wq hSw; clear hSw; go_simp; try with_reducible rfl)
              try simp only [Act.put, List.setIfInBounds_toArray, List.set_cons_zero, List.set_cons_succ]
              refine takeL (i := 13) (v := ?_) rfl (by kernel_rfl) (by kernel_rfl) (by kernel_rfl) (fun _ _ _ h => h) (Or.inl ⟨by rfl, ?_⟩) hHeld ?_
              rotate_left
              focus (intro wq hSw; clear hSw; go_simp; try with_reducible rfl)
              try simp only [Act.put, List.setIfInBounds_toArray, List.set_cons_zero, List.set_cons_succ]
              refine takeL (i := 14) (v := ?_) rfl (by kernel_rfl) (by kernel_rfl) (by kernel_rfl) (fun _ _ _ h => h) (Or.inl ⟨by rfl, ?_⟩) hHeld ?_
              rotate_left
              focus (intro wq hSw; clear hSw; go_simp; try with_reducible rfl)
              try simp only [Act.put, List.setIfInBounds_toArray, List.set_cons_zero, List.set_cons_succ]
              refine takeL (i := 15) (v := ?_) rfl (by kernel_rfl) (by kernel_rfl) (by kernel_rfl) (fun _ _ _ h => h) (Or.inl ⟨by rfl, ?_⟩) hHeld ?_
              rotate_left
              focus (intro wq hSw; obtain ⟨q0, _, _⟩ := (HQ.out.2.2.2.1.below hSw).cells; clear hSw; go_simp; try with_reducible rfl)
              try simp only [Act.put, List.setIfInBounds_toArray, List.set_cons_zero, List.set_cons_succ]
              refine takeL (i := 16) (v := ?_) rfl (by kernel_rfl) (by kernel_rfl) (by kernel_rfl) (fun _ _ _ h => h) (Or.inl ⟨by rfl, ?_⟩) hHeld ?_
              rotate_left
              focus (intro wq hSw; clear hSw; go_simp; try with_reducible rfl)
              try simp only [Act.put, List.setIfInBounds_toArray, List.set_cons_zero, List.set_cons_succ]
              refine takeL (i := 17) (v := ?_) rfl (by kernel_rfl) (by kernel_rfl) (by kernel_rfl) (fun _ _ _ h => h) (Or.inl ⟨by rfl, ?_⟩) hHeld ?_
              rotate_left
              focus (intro wq hSw; clear hSw; go_simp; try with_reducible rfl)
              try simp only [Act.put, List.setIfInBounds_toArray, List.set_cons_zero, List.set_cons_succ]
              refine takeL (i := 18) (v := ?_) rfl (by kernel_rfl) (by kernel_rfl) (by kernel_rfl) (fun _ _ _ h => h) (Or.inl ⟨by rfl, ?_⟩) hHeld ?_
              rotate_left
              focus (intro wq hSw; clear hSw; go_simp; try with_reducible rfl)
              try simp only [Act.put, List.setIfInBounds_toArray, List.set_cons_zero, List.set_cons_succ]
              refine takeL (i := 19) (v := ?_) rfl (by kernel_rfl) (by kernel_rfl) (by kernel_rfl) (fun _ _ _ h => h) (Or.inl ⟨by rfl, ?_⟩) hHeld ?_
              rotate_left
              focus (intro wq hSw; have z2 := (hSw.cell (p := ⟨gg, off + j * 4 + 2, none⟩) (cell_in HQ.out.2.2.2.2.2.2.2)).trans HQ.out.2.2.2.2.2.2.2; clear hSw; go_simp; try with_reducible rfl)
              try simp only [Act.put, List.setIfInBounds_toArray, List.set_cons_zero, List.set_cons_succ]
              refine takeL (i := 20) (v := ?_) rfl (by kernel_rfl) (by kernel_rfl) (by kernel_rfl) (fun _ _ _ h => h) (Or.inl ⟨by rfl, ?_⟩) hHeld ?_
              rotate_left
              focus (intro wq hSw; clear hSw; go_simp; try with_reducible rfl)
              try simp only [Act.put, List.setIfInBounds_toArray, List.set_cons_zero, List.set_cons_succ]
              refine takeL (i := 21) (v := ?_) rfl (by kernel_rfl) (by kernel_rfl) (by kernel_rfl) (fun _ _ _ h => h) (Or.inl ⟨by rfl, ?_⟩) hHeld ?_
              rotate_left
              focus (intro wq hSw; have gb1 := (HQ.out.2.2.2.2.1.below hSw).cell 1; have gb2 := (HQ.out.2.2.2.2.1.below hSw).cell 2; simp only [List.getElem?_toArray, List.getElem?_cons_succ, List.getElem?_cons_zero] at gb1 gb2; clear hSw; go_simp; try with_reducible rfl)
              try simp only [Act.put, List.setIfInBounds_toArray, List.set_cons_zero, List.set_cons_succ]
              refine takeL (i := 22) (v := ?_) rfl (by kernel_rfl) (by kernel_rfl) (by kernel_rfl) (fun _ _ _ h => h) (Or.inl ⟨by rfl, ?_⟩) hHeld ?_
              rotate_left
              focus (intro wq hSw; clear hSw; go_simp; try with_reducible rfl)
              try simp only [Act.put, List.setIfInBounds_toArray, List.set_cons_zero, List.set_cons_succ]
              refine takeL (i := 23) (v := ?_) rfl (by kernel_rfl) (by kernel_rfl) (by kernel_rfl) (fun _ _ _ h => h) (Or.inl ⟨by rfl, ?_⟩) hHeld ?_
              rotate_left
              focus (intro wq hSw; clear hSw; go_simp; try with_reducible rfl)
              try simp only [Act.put, List.setIfInBounds_toArray, List.set_cons_zero, List.set_cons_succ]
              refine wpAnyH_done (by kernel_rfl) ?_ _
              refine NoPanic.normal ?_
              have HH := Lib.hid hHeld
              clear hHeld
              have hq : P y = true := by rw [← HP.out]; exact decide_eq_true ⟨h1, h2⟩
              have hal : Below wd.heap.size wd (wd.alloc (.cells #[.int .i64 y.h] 3)) := (Below.refl _ _).alloc (Nat.le_refl _) _
              have hBd : Below W.heap.size W wd := HQ.out.2.1.trans (Below.mono HH.out HQ.out.2.1.size)
              have z0 := (Below.cell (p := ⟨gg, off + j * 4, none⟩) HH.out (cell_in HQ.out.2.2.2.2.2.1)).trans HQ.out.2.2.2.2.2.1
              obtain ⟨q0, q1, q2⟩ := (HQ.out.2.2.2.1.below HH.out).cells
              have HAl := Lib.hid (And.intro hal (And.intro hBd (And.intro (HQ.out.1.below HH.out) hq)))
              clear hal hBd hq h1 h2
              go_wp2_with (at_builtin; go_must (refine wp_appE Try.eI (.tmp 149) (.tmp 158) W.heap.size (.slice A8 n8 c8) _ (HAl.out.2.2.1.below HAl.out.1) (by have := HAl.out.2.1.size; have := HAl.out.1.size; omega) (some ⟨wd.heap.size, 0, none⟩) 1 1 [y.h] (Blk.rdC Try.eI (Blk.new wd 3 #[.int .i64 y.h]) rfl) (fun h => by cases h) (by rw [List.length_map]; have := filter_len R.l P j; simp; omega) rfl rfl rfl rfl ?_); intro A6 n6 c6 w9 hG; have H9 := Lib.hid hG; clear hG)
              go_roundw
              case measure => simp [intOf]; omega
              exact ⟨j + 1, by omega, by simp, A6, n6, c6, rfl, by rw [filter_take_t _ _ _ _ HQ.out.2.2.1 HAl.out.2.2.2, List.map_append]; exact H9.out.own, (HAl.out.2.1.trans (HAl.out.1.mono HAl.out.2.1.size)).trans H9.out.below⟩
            · have e1 : decide (y.c = x.conn) = true := decide_eq_true h1
              have e2 : decide (y.s = x.slot) = false := decide_eq_false h2
              refine region_old (by kernel_rfl) (fun wd hHeld hSz => ?_)
              have HSz := Lib.hid hSz
              clear hSz
              refine takeL (i := 0) (v := ?_) rfl (by kernel_rfl) (by kernel_rfl) (by kernel_rfl) (fun _ _ _ h => h) (Or.inl ⟨by rfl, ?_⟩) hHeld ?_
              rotate_left
              focus (intro wq hSw; clear hSw; go_simp; try with_reducible rfl)
              try simp only [Act.put, List.setIfInBounds_toArray, List.set_cons_zero, List.set_cons_succ]
              refine takeL (i := 1) (v := ?_) rfl (by kernel_rfl) (by kernel_rfl) (by kernel_rfl) (fun _ _ _ h => h) (Or.inl ⟨by rfl, ?_⟩) hHeld ?_
              rotate_left
              focus (intro wq hSw; clear hSw; go_simp; try with_reducible rfl)
              try simp only [Act.put, List.setIfInBounds_toArray, List.set_cons_zero, List.set_cons_succ]
              refine takeL (i := 2) (v := ?_) rfl (by kernel_rfl) (by kernel_rfl) (by kernel_rfl) (fun _ _ _ h => h) (Or.inl ⟨by rfl, ?_⟩) hHeld ?_
              rotate_left
              focus (intro wq hSw; clear hSw; go_simp; try with_reducible rfl)
              try simp only [Act.put, List.setIfInBounds_toArray, List.set_cons_zero, List.set_cons_succ]
              refine takeL (i := 3) (v := ?_) rfl (by kernel_rfl) (by kernel_rfl) (by kernel_rfl) (fun _ _ _ h => h) (Or.inl ⟨by rfl, ?_⟩) hHeld ?_
              rotate_left
              focus (intro wq hSw; obtain ⟨q0, _, _⟩ := (HQ.out.2.2.2.1.below hSw).cells; clear hSw; go_simp; try with_reducible rfl)
              try simp only [Act.put, List.setIfInBounds_toArray, List.set_cons_zero, List.set_cons_succ]
              refine takeL (i := 4) (v := ?_) rfl (by kernel_rfl) (by kernel_rfl) (by kernel_rfl) (fun _ _ _ h => h) (Or.inl ⟨by rfl, ?_⟩) hHeld ?_
              rotate_left
              focus (intro wq hSw; clear hSw; go_simp; try with_reducible rfl)
              try simp only [Act.put, List.setIfInBounds_toArray, List.set_cons_zero, List.set_cons_succ]
              refine takeL (i := 5) (v := ?_) rfl (by kernel_rfl) (by kernel_rfl) (by kernel_rfl) (fun _ _ _ h => h) (Or.inl ⟨by rfl, ?_⟩) hHeld ?_
              rotate_left
              focus (intro wq hSw; clear hSw; go_simp; try with_reducible rfl)
              try simp only [Act.put, List.setIfInBounds_toArray, List.set_cons_zero, List.set_cons_succ]
              refine takeL (i := 6) (v := ?_) rfl (by kernel_rfl) (by kernel_rfl) (by kernel_rfl) (fun _ _ _ h => h) (Or.inl ⟨by rfl, ?_⟩) hHeld ?_
              rotate_left
              focus (intro wq hSw; clear hSw; go_simp; try with_reducible rfl)
              try simp only [Act.put, List.setIfInBounds_toArray, List.set_cons_zero, List.set_cons_succ]
              refine takeL (i := 7) (v := ?_) rfl (by kernel_rfl) (by kernel_rfl) (by kernel_rfl) (fun _ _ _ h => h) (Or.inl ⟨by rfl, ?_⟩) hHeld ?_
              rotate_left
              focus (intro wq hSw; have z1 := (hSw.cell (p := ⟨gg, off + j * 4 + 1, none⟩) (cell_in HQ.out.2.2.2.2.2.2.1)).trans HQ.out.2.2.2.2.2.2.1; clear hSw; go_simp; try with_reducible rfl)
              try simp only [Act.put, List.setIfInBounds_toArray, List.set_cons_zero, List.set_cons_succ]
              refine takeL (i := 8) (v := ?_) rfl (by kernel_rfl) (by kernel_rfl) (by kernel_rfl) (fun _ _ _ h => h) (Or.inl ⟨by rfl, ?_⟩) hHeld ?_
              rotate_left
              focus (intro wq hSw; clear hSw; go_simp; try with_reducible rfl)
              try simp only [Act.put, List.setIfInBounds_toArray, List.set_cons_zero, List.set_cons_succ]
              refine takeL (i := 9) (v := ?_) rfl (by kernel_rfl) (by kernel_rfl) (by kernel_rfl) (fun _ _ _ h => h) (Or.inl ⟨by rfl, ?_⟩) hHeld ?_
              rotate_left
              focus (intro wq hSw; have gb1 := (HQ.out.2.2.2.2.1.below hSw).cell 1; have gb2 := (HQ.out.2.2.2.2.1.below hSw).cell 2; simp only [List.getElem?_toArray, List.getElem?_cons_succ, List.getElem?_cons_zero] at gb1 gb2; clear hSw; go_simp; try with_reducible rfl)
              try simp only [Act.put, List.setIfInBounds_toArray, List.set_cons_zero, List.set_cons_succ]
              refine takeL (i := 10) (v := ?_) rfl (by kernel_rfl) (by kernel_rfl) (by kernel_rfl) (fun _ _ _ h => h) (Or.inl ⟨by rfl, ?_⟩) hHeld ?_
              rotate_left
              focus (intro wq hSw; clear hSw; go_simp; try with_reducible rfl)
              try simp only [Act.put, List.setIfInBounds_toArray, List.set_cons_zero, List.set_cons_succ]
              refine takeL (i := 11) (v := ?_) rfl (by kernel_rfl) (by kernel_rfl) (by kernel_rfl) (fun _ _ _ h => h) (Or.inl ⟨by rfl, ?_⟩) hHeld ?_
              rotate_left
              focus (intro wq hSw; clear hSw; go_simp; try with_reducible rfl)
              try simp only [Act.put, List.setIfInBounds_toArray, List.set_cons_zero, List.set_cons_succ]
              refine takeL (i := 12) (v := ?_) rfl (by kernel_rfl) (by kernel_rfl) (by kernel_rfl) (fun _ _ _ h => h) (Or.inl ⟨by rfl, ?_⟩) hHeld ?_
              rotate_left
              focus (intro wq hSw; clear hSw; go_simp; try with_reducible rfl)
              try simp only [Act.put, List.setIfInBounds_toArray, List.set_cons_zero, List.set_cons_succ]
              refine takeL (i := 13) (v := ?_) rfl (by kernel_rfl) (by kernel_rfl) (by kernel_rfl) (fun _ _ _ h => h) (Or.inl ⟨by rfl, ?_⟩) hHeld ?_
              rotate_left
              focus (intro wq hSw; clear hSw; go_simp; try with_reducible rfl)
              try simp only [Act.put, List.setIfInBounds_toArray, List.set_cons_zero, List.set_cons_succ]
              refine takeL (i := 14) (v := ?_) rfl (by kernel_rfl) (by kernel_rfl) (by kernel_rfl) (fun _ _ _ h => h) (Or.inl ⟨by rfl, ?_⟩) hHeld ?_
              rotate_left
              focus (intro wq hSw; clear hSw; go_simp; try with_reducible rfl)
              try simp only [Act.put, List.setIfInBounds_toArray, List.set_cons_zero, List.set_cons_succ]
              refine takeL (i := 15) (v := ?_) rfl (by kernel_rfl) (by kernel_rfl) (by kernel_rfl) (fun _ _ _ h => h) (Or.inl ⟨by rfl, ?_⟩) hHeld ?_
              rotate_left
              focus (intro wq hSw; obtain ⟨q0, _, _⟩ := (HQ.out.2.2.2.1.below hSw).cells; clear hSw; go_simp; try with_reducible rfl)
              try simp only [Act.put, List.setIfInBounds_toArray, List.set_cons_zero, List.set_cons_succ]
              refine takeL (i := 16) (v := ?_) rfl (by kernel_rfl) (by kernel_rfl) (by kernel_rfl) (fun _ _ _ h => h) (Or.inl ⟨by rfl, ?_⟩) hHeld ?_
              rotate_left
              focus (intro wq hSw; clear hSw; go_simp; try with_reducible rfl)
              try simp only [Act.put, List.setIfInBounds_toArray, List.set_cons_zero, List.set_cons_succ]
              refine takeL (i := 17) (v := ?_) rfl (by kernel_rfl) (by kernel_rfl) (by kernel_rfl) (fun _ _ _ h => h) (Or.inl ⟨by rfl, ?_⟩) hHeld ?_
              rotate_left
              focus (intro wq hSw; clear hSw; go_simp; try with_reducible rfl)
              try simp only [Act.put, List.setIfInBounds_toArray, List.set_cons_zero, List.set_cons_succ]
              refine takeL (i := 18) (v := ?_) rfl (by kernel_rfl) (by kernel_rfl) (by kernel_rfl) (fun _ _ _ h => h) (Or.inl ⟨by rfl, ?_⟩) hHeld ?_
              rotate_left
              focus (intro wq hSw; clear hSw; go_simp; try with_reducible rfl)
              try simp only [Act.put, List.setIfInBounds_toArray, List.set_cons_zero, List.set_cons_succ]
              refine takeL (i := 19) (v := ?_) rfl (by kernel_rfl) (by kernel_rfl) (by kernel_rfl) (fun _ _ _ h => h) (Or.inl ⟨by rfl, ?_⟩) hHeld ?_
              rotate_left
              focus (intro wq hSw; have z2 := (hSw.cell (p := ⟨gg, off + j * 4 + 2, none⟩) (cell_in HQ.out.2.2.2.2.2.2.2)).trans HQ.out.2.2.2.2.2.2.2; clear hSw; go_simp; try with_reducible rfl)
              try simp only [Act.put, List.setIfInBounds_toArray, List.set_cons_zero, List.set_cons_succ]
              refine takeL (i := 20) (v := ?_) rfl (by kernel_rfl) (by kernel_rfl) (by kernel_rfl) (fun _ _ _ h => h) (Or.inl ⟨by rfl, ?_⟩) hHeld ?_
              rotate_left
              focus (intro wq hSw; clear hSw; go_simp; try with_reducible rfl)
              try simp only [Act.put, List.setIfInBounds_toArray, List.set_cons_zero, List.set_cons_succ]
              refine takeL (i := 21) (v := ?_) rfl (by kernel_rfl) (by kernel_rfl) (by kernel_rfl) (fun _ _ _ h => h) (Or.inl ⟨by rfl, ?_⟩) hHeld ?_
              rotate_left
              focus (intro wq hSw; have gb1 := (HQ.out.2.2.2.2.1.below hSw).cell 1; have gb2 := (HQ.out.2.2.2.2.1.below hSw).cell 2; simp only [List.getElem?_toArray, List.getElem?_cons_succ, List.getElem?_cons_zero] at gb1 gb2; clear hSw; go_simp; try with_reducible rfl)
              try simp only [Act.put, List.setIfInBounds_toArray, List.set_cons_zero, List.set_cons_succ]
              refine takeL (i := 22) (v := ?_) rfl (by kernel_rfl) (by kernel_rfl) (by kernel_rfl) (fun _ _ _ h => h) (Or.inl ⟨by rfl, ?_⟩) hHeld ?_
              rotate_left
              focus (intro wq hSw; clear hSw; go_simp; try with_reducible rfl)
              try simp only [Act.put, List.setIfInBounds_toArray, List.set_cons_zero, List.set_cons_succ]
              refine takeL (i := 23) (v := ?_) rfl (by kernel_rfl) (by kernel_rfl) (by kernel_rfl) (fun _ _ _ h => h) (Or.inl ⟨by rfl, ?_⟩) hHeld ?_
              rotate_left
              focus (intro wq hSw; clear hSw; go_simp; try with_reducible rfl)
              try simp only [Act.put, List.setIfInBounds_toArray, List.set_cons_zero, List.set_cons_succ]
              refine wpAnyH_done (by kernel_rfl) ?_ _
              refine NoPanic.normal ?_
              have HH := Lib.hid hHeld
              clear hHeld
              have hq : P y = false := by rw [← HP.out]; exact decide_eq_false (fun e => h2 e.2)
              have hst := filter_take_f _ _ _ _ HQ.out.2.2.1 hq
              have HS9 := Lib.hid hst
              clear hst hq
              go_wp2_with fail
              go_roundw
              case measure => simp [intOf]; omega
              exact ⟨j + 1, by omega, by simp, A8, n8, c8, rfl, by rw [HS9.out]; exact HQ.out.1.below HH.out, HQ.out.2.1.trans (Below.mono HH.out HQ.out.2.1.size)⟩
          · have e1 : decide (y.c = x.conn) = false := decide_eq_false h1
            refine region_old (by kernel_rfl) (fun wd hHeld hSz => ?_)
            have HSz := Lib.hid hSz
            clear hSz
            refine takeL (i := 0) (v := ?_) rfl (by kernel_rfl) (by kernel_rfl) (by kernel_rfl) (fun _ _ _ h => h) (Or.inl ⟨by rfl, ?_⟩) hHeld ?_
            rotate_left
            focus (intro wq hSw; clear hSw; go_simp; try with_reducible rfl)
            try simp only [Act.put, List.setIfInBounds_toArray, List.set_cons_zero, List.set_cons_succ]
            refine takeL (i := 1) (v := ?_) rfl (by kernel_rfl) (by kernel_rfl) (by kernel_rfl) (fun _ _ _ h => h) (Or.inl ⟨by rfl, ?_⟩) hHeld ?_
            rotate_left
            focus (intro wq hSw; clear hSw; go_simp; try with_reducible rfl)
            try simp only [Act.put, List.setIfInBounds_toArray, List.set_cons_zero, List.set_cons_succ]
            refine takeL (i := 2) (v := ?_) rfl (by kernel_rfl) (by kernel_rfl) (by kernel_rfl) (fun _ _ _ h => h) (Or.inl ⟨by rfl, ?_⟩) hHeld ?_
            rotate_left
            focus (intro wq hSw; clear hSw; go_simp; try with_reducible rfl)
            try simp only [Act.put, List.setIfInBounds_toArray, List.set_cons_zero, List.set_cons_succ]
            refine takeL (i := 3) (v := ?_) rfl (by kernel_rfl) (by kernel_rfl) (by kernel_rfl) (fun _ _ _ h => h) (Or.inl ⟨by rfl, ?_⟩) hHeld ?_
            rotate_left
            focus (intro wq hSw; obtain ⟨q0, _, _⟩ := (HQ.out.2.2.2.1.below hSw).cells; clear hSw; go_simp; try with_reducible rfl)
            try simp only [Act.put, List.setIfInBounds_toArray, List.set_cons_zero, List.set_cons_succ]
            refine takeL (i := 4) (v := ?_) rfl (by kernel_rfl) (by kernel_rfl) (by kernel_rfl) (fun _ _ _ h => h) (Or.inl ⟨by rfl, ?_⟩) hHeld ?_
            rotate_left
            focus (intro wq hSw; clear hSw; go_simp; try with_reducible rfl)
            try simp only [Act.put, List.setIfInBounds_toArray, List.set_cons_zero, List.set_cons_succ]
            refine takeL (i := 5) (v := ?_) rfl (by kernel_rfl) (by kernel_rfl) (by kernel_rfl) (fun _ _ _ h => h) (Or.inl ⟨by rfl, ?_⟩) hHeld ?_
            rotate_left
            focus (intro wq hSw; clear hSw; go_simp; try with_reducible rfl)
            try simp only [Act.put, List.setIfInBounds_toArray, List.set_cons_zero, List.set_cons_succ]
            refine takeL (i := 6) (v := ?_) rfl (by kernel_rfl) (by kernel_rfl) (by kernel_rfl) (fun _ _ _ h => h) (Or.inl ⟨by rfl, ?_⟩) hHeld ?_
            rotate_left
            focus (intro wq hSw; clear hSw; go_simp; try with_reducible rfl)
            try simp only [Act.put, List.setIfInBounds_toArray, List.set_cons_zero, List.set_cons_succ]
            refine takeL (i := 7) (v := ?_) rfl (by kernel_rfl) (by kernel_rfl) (by kernel_rfl) (fun _ _ _ h => h) (Or.inl ⟨by rfl, ?_⟩) hHeld ?_
            rotate_left
            focus (intro wq hSw; have z1 := (hSw.cell (p := ⟨gg, off + j * 4 + 1, none⟩) (cell_in HQ.out.2.2.2.2.2.2.1)).trans HQ.out.2.2.2.2.2.2.1; clear hSw; go_simp; try with_reducible rfl)
            try simp only [Act.put, List.setIfInBounds_toArray, List.set_cons_zero, List.set_cons_succ]
            refine takeL (i := 8) (v := ?_) rfl (by kernel_rfl) (by kernel_rfl) (by kernel_rfl) (fun _ _ _ h => h) (Or.inl ⟨by rfl, ?_⟩) hHeld ?_
            rotate_left
            focus (intro wq hSw; clear hSw; go_simp; try with_reducible rfl)
            try simp only [Act.put, List.setIfInBounds_toArray, List.set_cons_zero, List.set_cons_succ]
            refine takeL (i := 9) (v := ?_) rfl (by kernel_rfl) (by kernel_rfl) (by kernel_rfl) (fun _ _ _ h => h) (Or.inl ⟨by rfl, ?_⟩) hHeld ?_
            rotate_left
            focus (intro wq hSw; have gb1 := (HQ.out.2.2.2.2.1.below hSw).cell 1; have gb2 := (HQ.out.2.2.2.2.1.below hSw).cell 2; simp only [List.getElem?_toArray, List.getElem?_cons_succ, List.getElem?_cons_zero] at gb1 gb2; clear hSw; go_simp; try with_reducible rfl)
            try simp only [Act.put, List.setIfInBounds_toArray, List.set_cons_zero, List.set_cons_succ]
            refine takeL (i := 10) (v := .bool false) rfl (by kernel_rfl) (by kernel_rfl) (by kernel_rfl) (fun _ _ _ h => h) (Or.inl ⟨by rfl, ?_⟩) hHeld ?_
            focus (intro wq hSw; clear hSw; go_simp; first | done | exact h1 | simp [h1])
            try simp only [Act.put, List.setIfInBounds_toArray, List.set_cons_zero, List.set_cons_succ]
            refine takeL (i := 11) (v := ?_) rfl (by kernel_rfl) (by kernel_rfl) (by kernel_rfl) (fun _ _ _ h => h) (Or.inl ⟨by rfl, ?_⟩) hHeld ?_
            rotate_left
            focus (intro wq hSw; clear hSw; go_simp; try with_reducible rfl)
            try simp only [Act.put, List.setIfInBounds_toArray, List.set_cons_zero, List.set_cons_succ]
            refine takeL (i := 12) (v := undef) rfl (by kernel_rfl) (by kernel_rfl) (by kernel_rfl) (fun _ _ _ h => h) (Or.inr ⟨by rfl, rfl⟩) hHeld ?_
            try simp only [Act.put, List.setIfInBounds_toArray, List.set_cons_zero, List.set_cons_succ]
            refine takeL (i := 13) (v := undef) rfl (by kernel_rfl) (by kernel_rfl) (by kernel_rfl) (fun _ _ _ h => h) (Or.inr ⟨by rfl, rfl⟩) hHeld ?_
            try simp only [Act.put, List.setIfInBounds_toArray, List.set_cons_zero, List.set_cons_succ]
            refine takeL (i := 14) (v := undef) rfl (by kernel_rfl) (by kernel_rfl) (by kernel_rfl) (fun _ _ _ h => h) (Or.inr ⟨by rfl, rfl⟩) hHeld ?_
            try simp only [Act.put, List.setIfInBounds_toArray, List.set_cons_zero, List.set_cons_succ]
            refine takeL (i := 15) (v := undef) rfl (by kernel_rfl) (by kernel_rfl) (by kernel_rfl) (fun _ _ _ h => h) (Or.inr ⟨by rfl, rfl⟩) hHeld ?_
            try simp only [Act.put, List.setIfInBounds_toArray, List.set_cons_zero, List.set_cons_succ]
            refine takeL (i := 16) (v := undef) rfl (by kernel_rfl) (by kernel_rfl) (by kernel_rfl) (fun _ _ _ h => h) (Or.inr ⟨by rfl, rfl⟩) hHeld ?_
            try simp only [Act.put, List.setIfInBounds_toArray, List.set_cons_zero, List.set_cons_succ]
            refine takeL (i := 17) (v := undef) rfl (by kernel_rfl) (by kernel_rfl) (by kernel_rfl) (fun _ _ _ h => h) (Or.inr ⟨by rfl, rfl⟩) hHeld ?_
            try simp only [Act.put, List.setIfInBounds_toArray, List.set_cons_zero, List.set_cons_succ]
            refine takeL (i := 18) (v := undef) rfl (by kernel_rfl) (by kernel_rfl) (by kernel_rfl) (fun _ _ _ h => h) (Or.inr ⟨by rfl, rfl⟩) hHeld ?_
            try simp only [Act.put, List.setIfInBounds_toArray, List.set_cons_zero, List.set_cons_succ]
            refine takeL (i := 19) (v := undef) rfl (by kernel_rfl) (by kernel_rfl) (by kernel_rfl) (fun _ _ _ h => h) (Or.inr ⟨by rfl, rfl⟩) hHeld ?_
            try simp only [Act.put, List.setIfInBounds_toArray, List.set_cons_zero, List.set_cons_succ]
            refine takeL (i := 20) (v := undef) rfl (by kernel_rfl) (by kernel_rfl) (by kernel_rfl) (fun _ _ _ h => h) (Or.inr ⟨by rfl, rfl⟩) hHeld ?_
            try simp only [Act.put, List.setIfInBounds_toArray, List.set_cons_zero, List.set_cons_succ]
            refine takeL (i := 21) (v := undef) rfl (by kernel_rfl) (by kernel_rfl) (by kernel_rfl) (fun _ _ _ h => h) (Or.inr ⟨by rfl, rfl⟩) hHeld ?_
            try simp only [Act.put, List.setIfInBounds_toArray, List.set_cons_zero, List.set_cons_succ]
            refine takeL (i := 22) (v := undef) rfl (by kernel_rfl) (by kernel_rfl) (by kernel_rfl) (fun _ _ _ h => h) (Or.inr ⟨by rfl, rfl⟩) hHeld ?_
            try simp only [Act.put, List.setIfInBounds_toArray, List.set_cons_zero, List.set_cons_succ]
            refine takeL (i := 23) (v := ?_) rfl (by kernel_rfl) (by kernel_rfl) (by kernel_rfl) (fun _ _ _ h => h) (Or.inl ⟨by rfl, ?_⟩) hHeld ?_
            rotate_left
            focus (intro wq hSw; clear hSw; go_simp; try with_reducible rfl)
            try simp only [Act.put, List.setIfInBounds_toArray, List.set_cons_zero, List.set_cons_succ]
            refine wpAnyH_done (by kernel_rfl) ?_ _
            refine NoPanic.normal ?_
            have HH := Lib.hid hHeld
            clear hHeld
            have hq : P y = false := by rw [← HP.out]; exact decide_eq_false (fun e => h1 e.1)
            have hst := filter_take_f _ _ _ _ HQ.out.2.2.1 hq
            have HS9 := Lib.hid hst
            clear hst hq
            go_wp2_with fail
            go_roundw
            case measure => simp [intOf]; omega
            exact ⟨j + 1, by omega, by simp, A8, n8, c8, rfl, by rw [HS9.out]; exact HQ.out.1.below HH.out, HQ.out.2.1.trans (Below.mono HH.out HQ.out.2.1.size)⟩
        · obtain rfl : j = m := by omega
          have hlti : ¬ ((j : Int) < j) := by omega
          rw [show R.l.take j = R.l from List.take_of_length_le (by rw [HRW.out.2.1]; exact Nat.le_refl _)] at hO
          have hlsR : (R.l.filter P).map PS.h = ls := by rw [HRW.out.2.2.2, ← HP.out]; exact H7.out.2.2.1
          rw [hlsR] at hO
          have b9 := (HW.out.1.below hB).cell 0
          simp only [List.getElem?_toArray, List.getElem?_cons_zero] at b9
          have hlsl : ls.length ≤ 100000 := by rw [← hlsR, List.length_map]; exact Nat.le_trans (List.length_filter_le _ _) (by have := HRW.out.1.s1; omega)
          have hl := lists_any A9 n9 c9 A8 n8 c8 ls wr (HW.out.2.1.rd.below hB) hO.rd hlsl
          have HQ := Lib.hid (And.intro hB hl)
          clear hO hB hl hRl bX hlsR hlsl
          go_wp2_with fail
          refine HQ.out.2.mono ?_
          rintro e w9 ⟨rfl, hb9⟩
          have hb9' : Below W.heap.size W w9 := HQ.out.1.trans (hb9.mono HQ.out.1.size)
          have hd9 : w9.heap[Y + 4]? = some (.deferred (some [])) := (hb9'.block _ (by have := HW.out.2.2.2.2; omega)).trans HW.out.2.2.2.1
          have H9 := Lib.hid (And.intro hb9' hd9)
          clear hb9 hb9' hd9
          go_wp2_with fail
          have hT9 : Turn [Y + 4] w9 (w9.putObj (Y + 4) (.deferred none)) := (Turn.refl _ w9).putObj (.inl (by simp)) _
          refine ret_mark (v := .bool true) rfl H9.out.2 (fun W' => by simp [results, Try.results20, go_sem]) ?_
          have hwA : Below w.heap.size w W := H.out.2.2.2.2.2.1.trans (HW.out.2.2.1.mono H.out.2.2.2.2.2.1.size)
          exact ⟨rfl, below_turn (hwA.trans (H9.out.1.mono hwA.size)) hT9 (by simp; have := H6.out.2.2.2; have := H.out.2.2.2.2.2.2; omega) (by have := H9.out.1.size; have := hwA.size; omega)⟩
  · have hsw := (slot_find T x.conn x.h).2 y (by rw [← hRl]; exact hs)
    have hsl := HC.out.2.1
    rw [hsw] at hsl
    have HS := Lib.hid hsl
    have hkm : k < m := by rw [HRA.out.1.row.len]; exact (List.getElem?_eq_some_iff.1 hy).1
    obtain ⟨gg, off, hAe, z0, z1, z2, z3⟩ := rsess_at HRA.out.1.row.rd hy
    subst hAe
    have HZ := Lib.hid z2
    have hk0 : ¬ ((k : Int) < 0) := by omega
    have hkg : (0 : Int) ≤ (k : Int) := by omega
    have hkgd : decide ((0 : Int) ≤ (k : Int)) = true := decide_eq_true hkg
    have hkm' : (k : Int) < (m : Int) := by omega
    clear hsl hs hsw hRl he z0 z1 z2 z3
    go_wp2_with fail
    refine HS.out.mono ?_
    rintro e w1' ⟨rfl, hw1'⟩
    subst hw1'
    go_wp2_with fail
    clear g0 g1 g2 g3 g4 g5
    have HA0 := Lib.hid (Below.refl wA.heap.size wA)
    refine region_old (by kernel_rfl) (fun wd hHeld hSz => ?_)
    have HSz := Lib.hid hSz
    clear hSz
    refine takeL (i := 0) (v := ?_) rfl (by kernel_rfl) (by kernel_rfl) (by kernel_rfl) (fun _ _ _ h => h) (Or.inl ⟨by rfl, ?_⟩) hHeld ?_
    rotate_left
    focus (intro wq hSw; clear hSw; go_simp; try with_reducible rfl)
    try simp only [Act.put, List.setIfInBounds_toArray, List.set_cons_zero, List.set_cons_succ]
    refine takeL (i := 1) (v := ?_) rfl (by kernel_rfl) (by kernel_rfl) (by kernel_rfl) (fun _ _ _ h => h) (Or.inl ⟨by rfl, ?_⟩) hHeld ?_
    rotate_left
    focus (intro wq hSw; clear hSw; go_simp; try with_reducible rfl)
    try simp only [Act.put, List.setIfInBounds_toArray, List.set_cons_zero, List.set_cons_succ]
    refine takeL (i := 2) (v := ?_) rfl (by kernel_rfl) (by kernel_rfl) (by kernel_rfl) (fun _ _ _ h => h) (Or.inl ⟨by rfl, ?_⟩) hHeld ?_
    rotate_left
    focus (intro wq hSw; clear hSw; go_simp; try with_reducible rfl)
    try simp only [Act.put, List.setIfInBounds_toArray, List.set_cons_zero, List.set_cons_succ]
    refine takeL (i := 3) (v := ?_) rfl (by kernel_rfl) (by kernel_rfl) (by kernel_rfl) (fun _ _ _ h => h) (Or.inl ⟨by rfl, ?_⟩) hHeld ?_
    rotate_left
    focus (intro wq hSw; clear hSw; go_simp; try with_reducible rfl)
    try simp only [Act.put, List.setIfInBounds_toArray, List.set_cons_zero, List.set_cons_succ]
    refine takeL (i := 4) (v := ?_) rfl (by kernel_rfl) (by kernel_rfl) (by kernel_rfl) (fun _ _ _ h => h) (Or.inl ⟨by rfl, ?_⟩) hHeld ?_
    rotate_left
    focus (intro wq hSw; clear hSw; go_simp; try with_reducible rfl)
    try simp only [Act.put, List.setIfInBounds_toArray, List.set_cons_zero, List.set_cons_succ]
    refine takeL (i := 5) (v := ?_) rfl (by kernel_rfl) (by kernel_rfl) (by kernel_rfl) (fun _ _ _ h => h) (Or.inl ⟨by rfl, ?_⟩) hHeld ?_
    rotate_left
    focus (intro wq hSw; clear hSw; go_simp; try with_reducible rfl)
    try simp only [Act.put, List.setIfInBounds_toArray, List.set_cons_zero, List.set_cons_succ]
    refine takeL (i := 6) (v := ?_) rfl (by kernel_rfl) (by kernel_rfl) (by kernel_rfl) (fun _ _ _ h => h) (Or.inl ⟨by rfl, ?_⟩) hHeld ?_
    rotate_left
    focus (intro wq hSw; clear hSw; go_simp; try with_reducible rfl)
    try simp only [Act.put, List.setIfInBounds_toArray, List.set_cons_zero, List.set_cons_succ]
    refine takeL (i := 7) (v := ?_) rfl (by kernel_rfl) (by kernel_rfl) (by kernel_rfl) (fun _ _ _ h => h) (Or.inl ⟨by rfl, ?_⟩) hHeld ?_
    rotate_left
    focus (intro wq hSw; clear hSw; go_simp; try with_reducible rfl)
    try simp only [Act.put, List.setIfInBounds_toArray, List.set_cons_zero, List.set_cons_succ]
    refine takeL (i := 8) (v := ?_) rfl (by kernel_rfl) (by kernel_rfl) (by kernel_rfl) (fun _ _ _ h => h) (Or.inl ⟨by rfl, ?_⟩) hHeld ?_
    rotate_left
    focus (intro wq hSw; clear hSw; go_simp; try with_reducible rfl)
    try simp only [Act.put, List.setIfInBounds_toArray, List.set_cons_zero, List.set_cons_succ]
    refine takeL (i := 9) (v := ?_) rfl (by kernel_rfl) (by kernel_rfl) (by kernel_rfl) (fun _ _ _ h => h) (Or.inl ⟨by rfl, ?_⟩) hHeld ?_
    rotate_left
    focus (intro wq hSw; clear hSw; go_simp; try with_reducible rfl)
    try simp only [Act.put, List.setIfInBounds_toArray, List.set_cons_zero, List.set_cons_succ]
    refine takeL (i := 10) (v := ?_) rfl (by kernel_rfl) (by kernel_rfl) (by kernel_rfl) (fun _ _ _ h => h) (Or.inl ⟨by rfl, ?_⟩) hHeld ?_
    rotate_left
    focus (intro wq hSw; clear hSw; go_simp; try with_reducible rfl)
    try simp only [Act.put, List.setIfInBounds_toArray, List.set_cons_zero, List.set_cons_succ]
    refine takeL (i := 11) (v := ?_) rfl (by kernel_rfl) (by kernel_rfl) (by kernel_rfl) (fun _ _ _ h => h) (Or.inl ⟨by rfl, ?_⟩) hHeld ?_
    rotate_left
    focus (intro wq hSw; obtain ⟨q0, _, _⟩ := (HRA.out.1.below hSw).cells; clear hSw; go_simp; try with_reducible rfl)
    try simp only [Act.put, List.setIfInBounds_toArray, List.set_cons_zero, List.set_cons_succ]
    refine takeL (i := 12) (v := ?_) rfl (by kernel_rfl) (by kernel_rfl) (by kernel_rfl) (fun _ _ _ h => h) (Or.inl ⟨by rfl, ?_⟩) hHeld ?_
    rotate_left
    focus (intro wq hSw; clear hSw; go_simp; try with_reducible rfl)
    try simp only [Act.put, List.setIfInBounds_toArray, List.set_cons_zero, List.set_cons_succ]
    refine takeL (i := 13) (v := ?_) rfl (by kernel_rfl) (by kernel_rfl) (by kernel_rfl) (fun _ _ _ h => h) (Or.inl ⟨by rfl, ?_⟩) hHeld ?_
    rotate_left
    focus (intro wq hSw; clear hSw; go_simp; try with_reducible rfl)
    try simp only [Act.put, List.setIfInBounds_toArray, List.set_cons_zero, List.set_cons_succ]
    refine takeL (i := 14) (v := ?_) rfl (by kernel_rfl) (by kernel_rfl) (by kernel_rfl) (fun _ _ _ h => h) (Or.inl ⟨by rfl, ?_⟩) hHeld ?_
    rotate_left
    focus (intro wq hSw; clear hSw; go_simp; try with_reducible rfl)
    try simp only [Act.put, List.setIfInBounds_toArray, List.set_cons_zero, List.set_cons_succ]
    refine takeL (i := 15) (v := ?_) rfl (by kernel_rfl) (by kernel_rfl) (by kernel_rfl) (fun _ _ _ h => h) (Or.inl ⟨by rfl, ?_⟩) hHeld ?_
    rotate_left
    focus (intro wq hSw; have z2 := (hSw.cell (p := ⟨gg, off + k * 4 + 2, none⟩) (cell_in HZ.out)).trans HZ.out; clear hSw; go_simp; try with_reducible rfl)
    try simp only [Act.put, List.setIfInBounds_toArray, List.set_cons_zero, List.set_cons_succ]
    refine takeL (i := 16) (v := ?_) rfl (by kernel_rfl) (by kernel_rfl) (by kernel_rfl) (fun _ _ _ h => h) (Or.inl ⟨by rfl, ?_⟩) hHeld ?_
    rotate_left
    focus (intro wq hSw; clear hSw; go_simp; try with_reducible rfl)
    try simp only [Act.put, List.setIfInBounds_toArray, List.set_cons_zero, List.set_cons_succ]
    refine takeL (i := 17) (v := ?_) rfl (by kernel_rfl) (by kernel_rfl) (by kernel_rfl) (fun _ _ _ h => h) (Or.inl ⟨by rfl, ?_⟩) hHeld ?_
    rotate_left
    focus (intro wq hSw; clear hSw; go_simp; try with_reducible rfl)
    try simp only [Act.put, List.setIfInBounds_toArray, List.set_cons_zero, List.set_cons_succ]
    refine takeL (i := 18) (v := ?_) rfl (by kernel_rfl) (by kernel_rfl) (by kernel_rfl) (fun _ _ _ h => h) (Or.inl ⟨by rfl, ?_⟩) hHeld ?_
    rotate_left
    focus (intro wq hSw; clear hSw; go_simp; try with_reducible rfl)
    try simp only [Act.put, List.setIfInBounds_toArray, List.set_cons_zero, List.set_cons_succ]
    refine takeL (i := 19) (v := ?_) rfl (by kernel_rfl) (by kernel_rfl) (by kernel_rfl) (fun _ _ _ h => h) (Or.inl ⟨by rfl, ?_⟩) hHeld ?_
    rotate_left
    focus (intro wq hSw; clear hSw; go_simp; try with_reducible rfl)
    try simp only [Act.put, List.setIfInBounds_toArray, List.set_cons_zero, List.set_cons_succ]
    refine takeL (i := 20) (v := ?_) rfl (by kernel_rfl) (by kernel_rfl) (by kernel_rfl) (fun _ _ _ h => h) (Or.inl ⟨by rfl, ?_⟩) hHeld ?_
    rotate_left
    focus (intro wq hSw; clear hSw; go_simp; try with_reducible rfl)
    try simp only [Act.put, List.setIfInBounds_toArray, List.set_cons_zero, List.set_cons_succ]
    refine takeL (i := 21) (v := ?_) rfl (by kernel_rfl) (by kernel_rfl) (by kernel_rfl) (fun _ _ _ h => h) (Or.inl ⟨by rfl, ?_⟩) hHeld ?_
    rotate_left
    focus (intro wq hSw; clear hSw; go_simp; try with_reducible rfl)
    try simp only [Act.put, List.setIfInBounds_toArray, List.set_cons_zero, List.set_cons_succ]
    refine takeL (i := 22) (v := ?_) rfl (by kernel_rfl) (by kernel_rfl) (by kernel_rfl) (fun _ _ _ h => h) (Or.inl ⟨by rfl, ?_⟩) hHeld ?_
    rotate_left
    focus (intro wq hSw; clear hSw; go_simp; try with_reducible rfl)
    try simp only [Act.put, List.setIfInBounds_toArray, List.set_cons_zero, List.set_cons_succ]
    refine takeL (i := 23) (v := undef) rfl (by kernel_rfl) (by kernel_rfl) (by kernel_rfl) (fun _ _ _ h => h) (Or.inr ⟨by rfl, rfl⟩) hHeld ?_
    try simp only [Act.put, List.setIfInBounds_toArray, List.set_cons_zero, List.set_cons_succ]
    refine takeL (i := 24) (v := undef) rfl (by kernel_rfl) (by kernel_rfl) (by kernel_rfl) (fun _ _ _ h => h) (Or.inr ⟨by rfl, rfl⟩) hHeld ?_
    try simp only [Act.put, List.setIfInBounds_toArray, List.set_cons_zero, List.set_cons_succ]
    refine takeL (i := 25) (v := ?_) rfl (by kernel_rfl) (by kernel_rfl) (by kernel_rfl) (fun _ _ _ h => h) (Or.inl ⟨by rfl, ?_⟩) hHeld ?_
    rotate_left
    focus (intro wq hSw; clear hSw; go_simp; try with_reducible rfl)
    try simp only [Act.put, List.setIfInBounds_toArray, List.set_cons_zero, List.set_cons_succ]
    refine takeL (i := 26) (v := ?_) rfl (by kernel_rfl) (by kernel_rfl) (by kernel_rfl) (fun _ _ _ h => h) (Or.inl ⟨by rfl, ?_⟩) hHeld ?_
    rotate_left
    focus (intro wq hSw; clear hSw; go_simp; try with_reducible rfl)
    try simp only [Act.put, List.setIfInBounds_toArray, List.set_cons_zero, List.set_cons_succ]
    refine takeL (i := 27) (v := ?_) rfl (by kernel_rfl) (by kernel_rfl) (by kernel_rfl) (fun _ _ _ h => h) (Or.inl ⟨by rfl, ?_⟩) hHeld ?_
    rotate_left
    focus (intro wq hSw; clear hSw; go_simp; try with_reducible rfl)
    try simp only [Act.put, List.setIfInBounds_toArray, List.set_cons_zero, List.set_cons_succ]
    refine takeL (i := 28) (v := ?_) rfl (by kernel_rfl) (by kernel_rfl) (by kernel_rfl) (fun _ _ _ h => h) (Or.inl ⟨by rfl, ?_⟩) hHeld ?_
    rotate_left
    focus (intro wq hSw; clear hSw; go_simp; try with_reducible rfl)
    try simp only [Act.put, List.setIfInBounds_toArray, List.set_cons_zero, List.set_cons_succ]
    refine takeL (i := 29) (v := ?_) rfl (by kernel_rfl) (by kernel_rfl) (by kernel_rfl) (fun _ _ _ h => h) (Or.inl ⟨by rfl, ?_⟩) hHeld ?_
    rotate_left
    focus (intro wq hSw; clear hSw; go_simp; try with_reducible rfl)
    try simp only [Act.put, List.setIfInBounds_toArray, List.set_cons_zero, List.set_cons_succ]
    refine takeL (i := 30) (v := ?_) rfl (by kernel_rfl) (by kernel_rfl) (by kernel_rfl) (fun _ _ _ h => h) (Or.inl ⟨by rfl, ?_⟩) hHeld ?_
    rotate_left
    focus (intro wq hSw; have gb1 := ((H.out.2.2.2.2.1.below (Below.refl wA.heap.size wA)).below hSw).cell 1; have gb2 := ((H.out.2.2.2.2.1.below (Below.refl wA.heap.size wA)).below hSw).cell 2; have gb3 := ((H.out.2.2.2.2.1.below (Below.refl wA.heap.size wA)).below hSw).cell 3; have gb4 := ((H.out.2.2.2.2.1.below (Below.refl wA.heap.size wA)).below hSw).cell 4; simp only [List.getElem?_toArray, List.getElem?_cons_succ, List.getElem?_cons_zero] at gb1 gb2 gb3 gb4; clear hSw; go_simp; try with_reducible rfl)
    try simp only [Act.put, List.setIfInBounds_toArray, List.set_cons_zero, List.set_cons_succ]
    refine takeL (i := 31) (v := ?_) rfl (by kernel_rfl) (by kernel_rfl) (by kernel_rfl) (fun _ _ _ h => h) (Or.inl ⟨by rfl, ?_⟩) hHeld ?_
    rotate_left
    focus (intro wq hSw; clear hSw; go_simp; try with_reducible rfl)
    try simp only [Act.put, List.setIfInBounds_toArray, List.set_cons_zero, List.set_cons_succ]
    refine takeL (i := 32) (v := ?_) rfl (by kernel_rfl) (by kernel_rfl) (by kernel_rfl) (fun _ _ _ h => h) (Or.inl ⟨by rfl, ?_⟩) hHeld ?_
    rotate_left
    focus (intro wq hSw; have gb1 := ((H.out.2.2.2.2.1.below (Below.refl wA.heap.size wA)).below hSw).cell 1; have gb2 := ((H.out.2.2.2.2.1.below (Below.refl wA.heap.size wA)).below hSw).cell 2; have gb3 := ((H.out.2.2.2.2.1.below (Below.refl wA.heap.size wA)).below hSw).cell 3; have gb4 := ((H.out.2.2.2.2.1.below (Below.refl wA.heap.size wA)).below hSw).cell 4; simp only [List.getElem?_toArray, List.getElem?_cons_succ, List.getElem?_cons_zero] at gb1 gb2 gb3 gb4; clear hSw; go_simp; try with_reducible rfl)
    try simp only [Act.put, List.setIfInBounds_toArray, List.set_cons_zero, List.set_cons_succ]
    refine takeL (i := 34) (v := ?_) rfl (by kernel_rfl) (by kernel_rfl) (by kernel_rfl) (fun _ _ _ h => h) (Or.inl ⟨by rfl, ?_⟩) hHeld ?_
    rotate_left
    focus (intro wq hSw; clear hSw; go_simp; try with_reducible rfl)
    try simp only [Act.put, List.setIfInBounds_toArray, List.set_cons_zero, List.set_cons_succ]
    refine takeL (i := 35) (v := ?_) rfl (by kernel_rfl) (by kernel_rfl) (by kernel_rfl) (fun _ _ _ h => h) (Or.inl ⟨by rfl, ?_⟩) hHeld ?_
    rotate_left
    focus (intro wq hSw; clear hSw; go_simp; try with_reducible rfl)
    try simp only [Act.put, List.setIfInBounds_toArray, List.set_cons_zero, List.set_cons_succ]
    refine takeL (i := 36) (v := ?_) rfl (by kernel_rfl) (by kernel_rfl) (by kernel_rfl) (fun _ _ _ h => h) (Or.inl ⟨by rfl, ?_⟩) hHeld ?_
    rotate_left
    focus (intro wq hSw; have gb1 := ((H.out.2.2.2.2.1.below (Below.refl wA.heap.size wA)).below hSw).cell 1; have gb2 := ((H.out.2.2.2.2.1.below (Below.refl wA.heap.size wA)).below hSw).cell 2; have gb3 := ((H.out.2.2.2.2.1.below (Below.refl wA.heap.size wA)).below hSw).cell 3; have gb4 := ((H.out.2.2.2.2.1.below (Below.refl wA.heap.size wA)).below hSw).cell 4; simp only [List.getElem?_toArray, List.getElem?_cons_succ, List.getElem?_cons_zero] at gb1 gb2 gb3 gb4; clear hSw; go_simp; try with_reducible rfl)
    try simp only [Act.put, List.setIfInBounds_toArray, List.set_cons_zero, List.set_cons_succ]
    refine takeL (i := 37) (v := ?_) rfl (by kernel_rfl) (by kernel_rfl) (by kernel_rfl) (fun _ _ _ h => h) (Or.inl ⟨by rfl, ?_⟩) hHeld ?_
    rotate_left
    focus (intro wq hSw; clear hSw; go_simp; try with_reducible rfl)
    try simp only [Act.put, List.setIfInBounds_toArray, List.set_cons_zero, List.set_cons_succ]
    refine takeL (i := 38) (v := ?_) rfl (by kernel_rfl) (by kernel_rfl) (by kernel_rfl) (fun _ _ _ h => h) (Or.inl ⟨by rfl, ?_⟩) hHeld ?_
    rotate_left
    focus (intro wq hSw; have gb1 := ((H.out.2.2.2.2.1.below (Below.refl wA.heap.size wA)).below hSw).cell 1; have gb2 := ((H.out.2.2.2.2.1.below (Below.refl wA.heap.size wA)).below hSw).cell 2; have gb3 := ((H.out.2.2.2.2.1.below (Below.refl wA.heap.size wA)).below hSw).cell 3; have gb4 := ((H.out.2.2.2.2.1.below (Below.refl wA.heap.size wA)).below hSw).cell 4; simp only [List.getElem?_toArray, List.getElem?_cons_succ, List.getElem?_cons_zero] at gb1 gb2 gb3 gb4; clear hSw; go_simp; try with_reducible rfl)
    try simp only [Act.put, List.setIfInBounds_toArray, List.set_cons_zero, List.set_cons_succ]
    refine wpAnyH_ready (rs := [33]) (by kernel_rfl) (by simp) ?_
    refine consL rfl (fun K hK => ?_) AllReadyH.nil
    go_simp
    refine (HC.out.2.2.1 wd hHeld).mono ?_
    rintro e w2 ⟨rfl, hb2⟩
    have hb2' : Old wA w2 := Old.trans hHeld hb2
    have HB2 := Lib.hid hb2'
    clear hb2
    refine hK.out _ _ hb2' (fun hHeld => ?_)
    clear hK K
    try simp only [Act.put, List.setIfInBounds_toArray, List.set_cons_zero, List.set_cons_succ]
    refine wpAnyH_old (w1 := w2) hb2' (fun hHeld => ?_) (Old.refl _)
    refine wpAnyH_ready (rs := [39]) (by kernel_rfl) (by simp) ?_
    refine consL rfl (fun K hK => ?_) AllReadyH.nil
    go_simp
    refine (HC.out.2.2.2.1 w2 HB2.out).mono ?_
    rintro e w3 ⟨rfl, hb3⟩
    have hb3' : Old w2 w3 := hb3
    have HB3 := Lib.hid (Old.trans HB2.out hb3)
    clear hb3
    refine hK.out _ _ hb3' (fun hHeld => ?_)
    clear hK K
    try simp only [Act.put, List.setIfInBounds_toArray, List.set_cons_zero, List.set_cons_succ]
    refine wpAnyH_old (w1 := w3) hb3' (fun hHeld => ?_) (Old.refl _)
    refine takeL (i := 40) (v := ?_) rfl (by kernel_rfl) (by kernel_rfl) (by kernel_rfl) (fun _ _ _ h => h) (Or.inl ⟨by rfl, ?_⟩) hHeld ?_
    rotate_left
    focus (intro wq hSw; clear hSw; go_simp; try with_reducible rfl)
    try simp only [Act.put, List.setIfInBounds_toArray, List.set_cons_zero, List.set_cons_succ]
    refine takeL (i := 41) (v := ?_) rfl (by kernel_rfl) (by kernel_rfl) (by kernel_rfl) (fun _ _ _ h => h) (Or.inl ⟨by rfl, ?_⟩) hHeld ?_
    rotate_left
    focus (intro wq hSw; clear hSw; go_simp; try with_reducible rfl)
    try simp only [Act.put, List.setIfInBounds_toArray, List.set_cons_zero, List.set_cons_succ]
    refine takeL (i := 42) (v := ?_) rfl (by kernel_rfl) (by kernel_rfl) (by kernel_rfl) (fun _ _ _ h => h) (Or.inl ⟨by rfl, ?_⟩) hHeld ?_
    rotate_left
    focus (intro wq hSw; clear hSw; go_simp; try with_reducible rfl)
    try simp only [Act.put, List.setIfInBounds_toArray, List.set_cons_zero, List.set_cons_succ]
    refine takeL (i := 43) (v := ?_) rfl (by kernel_rfl) (by kernel_rfl) (by kernel_rfl) (fun _ _ _ h => h) (Or.inl ⟨by rfl, ?_⟩) hHeld ?_
    rotate_left
    focus (intro wq hSw; clear hSw; go_simp; try with_reducible rfl)
    try simp only [Act.put, List.setIfInBounds_toArray, List.set_cons_zero, List.set_cons_succ]
    refine takeL (i := 44) (v := ?_) rfl (by kernel_rfl) (by kernel_rfl) (by kernel_rfl) (fun _ _ _ h => h) (Or.inl ⟨by rfl, ?_⟩) hHeld ?_
    rotate_left
    focus (intro wq hSw; clear hSw; go_simp; try with_reducible rfl)
    try simp only [Act.put, List.setIfInBounds_toArray, List.set_cons_zero, List.set_cons_succ]
    refine takeL (i := 45) (v := ?_) rfl (by kernel_rfl) (by kernel_rfl) (by kernel_rfl) (fun _ _ _ h => h) (Or.inl ⟨by rfl, ?_⟩) hHeld ?_
    rotate_left
    focus (intro wq hSw; have gb1 := ((H.out.2.2.2.2.1.below HB3.out).below hSw).cell 1; have gb2 := ((H.out.2.2.2.2.1.below HB3.out).below hSw).cell 2; have gb3 := ((H.out.2.2.2.2.1.below HB3.out).below hSw).cell 3; have gb4 := ((H.out.2.2.2.2.1.below HB3.out).below hSw).cell 4; simp only [List.getElem?_toArray, List.getElem?_cons_succ, List.getElem?_cons_zero] at gb1 gb2 gb3 gb4; clear hSw; go_simp; try with_reducible rfl)
    try simp only [Act.put, List.setIfInBounds_toArray, List.set_cons_zero, List.set_cons_succ]
    refine takeL (i := 47) (v := ?_) rfl (by kernel_rfl) (by kernel_rfl) (by kernel_rfl) (fun _ _ _ h => h) (Or.inl ⟨by rfl, ?_⟩) hHeld ?_
    rotate_left
    focus (intro wq hSw; clear hSw; go_simp; try with_reducible rfl)
    try simp only [Act.put, List.setIfInBounds_toArray, List.set_cons_zero, List.set_cons_succ]
    refine takeL (i := 48) (v := ?_) rfl (by kernel_rfl) (by kernel_rfl) (by kernel_rfl) (fun _ _ _ h => h) (Or.inl ⟨by rfl, ?_⟩) hHeld ?_
    rotate_left
    focus (intro wq hSw; clear hSw; go_simp; try with_reducible rfl)
    try simp only [Act.put, List.setIfInBounds_toArray, List.set_cons_zero, List.set_cons_succ]
    refine takeL (i := 49) (v := ?_) rfl (by kernel_rfl) (by kernel_rfl) (by kernel_rfl) (fun _ _ _ h => h) (Or.inl ⟨by rfl, ?_⟩) hHeld ?_
    rotate_left
    focus (intro wq hSw; have gb1 := ((H.out.2.2.2.2.1.below HB3.out).below hSw).cell 1; have gb2 := ((H.out.2.2.2.2.1.below HB3.out).below hSw).cell 2; have gb3 := ((H.out.2.2.2.2.1.below HB3.out).below hSw).cell 3; have gb4 := ((H.out.2.2.2.2.1.below HB3.out).below hSw).cell 4; simp only [List.getElem?_toArray, List.getElem?_cons_succ, List.getElem?_cons_zero] at gb1 gb2 gb3 gb4; clear hSw; go_simp; try with_reducible rfl)
    try simp only [Act.put, List.setIfInBounds_toArray, List.set_cons_zero, List.set_cons_succ]
    refine wpAnyH_ready (rs := [46]) (by kernel_rfl) (by simp) ?_
    refine consL rfl (fun K hK => ?_) AllReadyH.nil
    go_simp
    refine (HC.out.2.2.2.2.1 w3 HB3.out).mono ?_
    rintro e w4 ⟨rfl, hb4⟩
    have hb4' : Old w3 w4 := hb4
    have HB4 := Lib.hid (Old.trans HB3.out hb4)
    clear hb4
    refine hK.out _ _ hb4' (fun hHeld => ?_)
    clear hK K
    try simp only [Act.put, List.setIfInBounds_toArray, List.set_cons_zero, List.set_cons_succ]
    refine wpAnyH_old (w1 := w4) hb4' (fun hHeld => ?_) (Old.refl _)
    refine wpAnyH_ready (rs := [50]) (by kernel_rfl) (by simp) ?_
    refine consL rfl (fun K hK => ?_) AllReadyH.nil
    go_simp
    refine (HC.out.2.2.2.2.2.1 w4 HB4.out).mono ?_
    rintro e w4' ⟨rfl, hw4⟩
    subst hw4
    refine hK.out _ _ hHeld (fun hHeld => ?_)
    clear hK K
    try simp only [Act.put, List.setIfInBounds_toArray, List.set_cons_zero, List.set_cons_succ]
    refine takeL (i := 51) (v := ?_) rfl (by kernel_rfl) (by kernel_rfl) (by kernel_rfl) (fun _ _ _ h => h) (Or.inl ⟨by rfl, ?_⟩) hHeld ?_
    rotate_left
    focus (intro wq hSw; clear hSw; go_simp; try with_reducible rfl)
    try simp only [Act.put, List.setIfInBounds_toArray, List.set_cons_zero, List.set_cons_succ]
    refine takeL (i := 52) (v := ?_) rfl (by kernel_rfl) (by kernel_rfl) (by kernel_rfl) (fun _ _ _ h => h) (Or.inl ⟨by rfl, ?_⟩) hHeld ?_
    rotate_left
    focus (intro wq hSw; clear hSw; go_simp; try with_reducible rfl)
    try simp only [Act.put, List.setIfInBounds_toArray, List.set_cons_zero, List.set_cons_succ]
    refine takeL (i := 53) (v := ?_) rfl (by kernel_rfl) (by kernel_rfl) (by kernel_rfl) (fun _ _ _ h => h) (Or.inl ⟨by rfl, ?_⟩) hHeld ?_
    rotate_left
    focus (intro wq hSw; clear hSw; go_simp; try with_reducible rfl)
    try simp only [Act.put, List.setIfInBounds_toArray, List.set_cons_zero, List.set_cons_succ]
    refine takeL (i := 54) (v := ?_) rfl (by kernel_rfl) (by kernel_rfl) (by kernel_rfl) (fun _ _ _ h => h) (Or.inl ⟨by rfl, ?_⟩) hHeld ?_
    rotate_left
    focus (intro wq hSw; clear hSw; go_simp; try with_reducible rfl)
    try simp only [Act.put, List.setIfInBounds_toArray, List.set_cons_zero, List.set_cons_succ]
    refine takeL (i := 55) (v := ?_) rfl (by kernel_rfl) (by kernel_rfl) (by kernel_rfl) (fun _ _ _ h => h) (Or.inl ⟨by rfl, ?_⟩) hHeld ?_
    rotate_left
    focus (intro wq hSw; clear hSw; go_simp; try with_reducible rfl)
    try simp only [Act.put, List.setIfInBounds_toArray, List.set_cons_zero, List.set_cons_succ]
    refine takeL (i := 56) (v := ?_) rfl (by kernel_rfl) (by kernel_rfl) (by kernel_rfl) (fun _ _ _ h => h) (Or.inl ⟨by rfl, ?_⟩) hHeld ?_
    rotate_left
    focus (intro wq hSw; have gb1 := ((H.out.2.2.2.2.1.below HB4.out).below hSw).cell 1; have gb2 := ((H.out.2.2.2.2.1.below HB4.out).below hSw).cell 2; have gb3 := ((H.out.2.2.2.2.1.below HB4.out).below hSw).cell 3; have gb4 := ((H.out.2.2.2.2.1.below HB4.out).below hSw).cell 4; simp only [List.getElem?_toArray, List.getElem?_cons_succ, List.getElem?_cons_zero] at gb1 gb2 gb3 gb4; clear hSw; go_simp; try with_reducible rfl)
    try simp only [Act.put, List.setIfInBounds_toArray, List.set_cons_zero, List.set_cons_succ]
    refine takeL (i := 57) (v := ?_) rfl (by kernel_rfl) (by kernel_rfl) (by kernel_rfl) (fun _ _ _ h => h) (Or.inl ⟨by rfl, ?_⟩) hHeld ?_
    rotate_left
    focus (intro wq hSw; clear hSw; go_simp; try with_reducible rfl)
    try simp only [Act.put, List.setIfInBounds_toArray, List.set_cons_zero, List.set_cons_succ]
    refine takeL (i := 58) (v := ?_) rfl (by kernel_rfl) (by kernel_rfl) (by kernel_rfl) (fun _ _ _ h => h) (Or.inl ⟨by rfl, ?_⟩) hHeld ?_
    rotate_left
    focus (intro wq hSw; have gb1 := ((H.out.2.2.2.2.1.below HB4.out).below hSw).cell 1; have gb2 := ((H.out.2.2.2.2.1.below HB4.out).below hSw).cell 2; have gb3 := ((H.out.2.2.2.2.1.below HB4.out).below hSw).cell 3; have gb4 := ((H.out.2.2.2.2.1.below HB4.out).below hSw).cell 4; simp only [List.getElem?_toArray, List.getElem?_cons_succ, List.getElem?_cons_zero] at gb1 gb2 gb3 gb4; clear hSw; go_simp; try with_reducible rfl)
    try simp only [Act.put, List.setIfInBounds_toArray, List.set_cons_zero, List.set_cons_succ]
    refine takeL (i := 59) (v := ?_) rfl (by kernel_rfl) (by kernel_rfl) (by kernel_rfl) (fun _ _ _ h => h) (Or.inl ⟨by rfl, ?_⟩) hHeld ?_
    rotate_left
    focus (intro wq hSw; clear hSw; go_simp; try with_reducible rfl)
    try simp only [Act.put, List.setIfInBounds_toArray, List.set_cons_zero, List.set_cons_succ]
    refine takeL (i := 60) (v := ?_) rfl (by kernel_rfl) (by kernel_rfl) (by kernel_rfl) (fun _ _ _ h => h) (Or.inl ⟨by rfl, ?_⟩) hHeld ?_
    rotate_left
    focus (intro wq hSw; have gb1 := ((H.out.2.2.2.2.1.below HB4.out).below hSw).cell 1; have gb2 := ((H.out.2.2.2.2.1.below HB4.out).below hSw).cell 2; have gb3 := ((H.out.2.2.2.2.1.below HB4.out).below hSw).cell 3; have gb4 := ((H.out.2.2.2.2.1.below HB4.out).below hSw).cell 4; simp only [List.getElem?_toArray, List.getElem?_cons_succ, List.getElem?_cons_zero] at gb1 gb2 gb3 gb4; clear hSw; go_simp; try with_reducible rfl)
    try simp only [Act.put, List.setIfInBounds_toArray, List.set_cons_zero, List.set_cons_succ]
    refine takeL (i := 62) (v := ?_) rfl (by kernel_rfl) (by kernel_rfl) (by kernel_rfl) (fun _ _ _ h => h) (Or.inl ⟨by rfl, ?_⟩) hHeld ?_
    rotate_left
    focus (intro wq hSw; clear hSw; go_simp; try with_reducible rfl)
    try simp only [Act.put, List.setIfInBounds_toArray, List.set_cons_zero, List.set_cons_succ]
    refine takeL (i := 63) (v := ?_) rfl (by kernel_rfl) (by kernel_rfl) (by kernel_rfl) (fun _ _ _ h => h) (Or.inl ⟨by rfl, ?_⟩) hHeld ?_
    rotate_left
    focus (intro wq hSw; clear hSw; go_simp; try with_reducible rfl)
    try simp only [Act.put, List.setIfInBounds_toArray, List.set_cons_zero, List.set_cons_succ]
    refine takeL (i := 64) (v := ?_) rfl (by kernel_rfl) (by kernel_rfl) (by kernel_rfl) (fun _ _ _ h => h) (Or.inl ⟨by rfl, ?_⟩) hHeld ?_
    rotate_left
    focus (intro wq hSw; have gb1 := ((H.out.2.2.2.2.1.below HB4.out).below hSw).cell 1; have gb2 := ((H.out.2.2.2.2.1.below HB4.out).below hSw).cell 2; have gb3 := ((H.out.2.2.2.2.1.below HB4.out).below hSw).cell 3; have gb4 := ((H.out.2.2.2.2.1.below HB4.out).below hSw).cell 4; simp only [List.getElem?_toArray, List.getElem?_cons_succ, List.getElem?_cons_zero] at gb1 gb2 gb3 gb4; clear hSw; go_simp; try with_reducible rfl)
    try simp only [Act.put, List.setIfInBounds_toArray, List.set_cons_zero, List.set_cons_succ]
    refine takeL (i := 65) (v := ?_) rfl (by kernel_rfl) (by kernel_rfl) (by kernel_rfl) (fun _ _ _ h => h) (Or.inl ⟨by rfl, ?_⟩) hHeld ?_
    rotate_left
    focus (intro wq hSw; clear hSw; go_simp; try with_reducible rfl)
    try simp only [Act.put, List.setIfInBounds_toArray, List.set_cons_zero, List.set_cons_succ]
    refine takeL (i := 66) (v := ?_) rfl (by kernel_rfl) (by kernel_rfl) (by kernel_rfl) (fun _ _ _ h => h) (Or.inl ⟨by rfl, ?_⟩) hHeld ?_
    rotate_left
    focus (intro wq hSw; have gb1 := ((H.out.2.2.2.2.1.below HB4.out).below hSw).cell 1; have gb2 := ((H.out.2.2.2.2.1.below HB4.out).below hSw).cell 2; have gb3 := ((H.out.2.2.2.2.1.below HB4.out).below hSw).cell 3; have gb4 := ((H.out.2.2.2.2.1.below HB4.out).below hSw).cell 4; simp only [List.getElem?_toArray, List.getElem?_cons_succ, List.getElem?_cons_zero] at gb1 gb2 gb3 gb4; clear hSw; go_simp; try with_reducible rfl)
    try simp only [Act.put, List.setIfInBounds_toArray, List.set_cons_zero, List.set_cons_succ]
    refine takeL (i := 67) (v := ?_) rfl (by kernel_rfl) (by kernel_rfl) (by kernel_rfl) (fun _ _ _ h => h) (Or.inl ⟨by rfl, ?_⟩) hHeld ?_
    rotate_left
    focus (intro wq hSw; clear hSw; go_simp; try with_reducible rfl)
    try simp only [Act.put, List.setIfInBounds_toArray, List.set_cons_zero, List.set_cons_succ]
    refine takeL (i := 68) (v := ?_) rfl (by kernel_rfl) (by kernel_rfl) (by kernel_rfl) (fun _ _ _ h => h) (Or.inl ⟨by rfl, ?_⟩) hHeld ?_
    rotate_left
    focus (intro wq hSw; have gb1 := ((H.out.2.2.2.2.1.below HB4.out).below hSw).cell 1; have gb2 := ((H.out.2.2.2.2.1.below HB4.out).below hSw).cell 2; have gb3 := ((H.out.2.2.2.2.1.below HB4.out).below hSw).cell 3; have gb4 := ((H.out.2.2.2.2.1.below HB4.out).below hSw).cell 4; simp only [List.getElem?_toArray, List.getElem?_cons_succ, List.getElem?_cons_zero] at gb1 gb2 gb3 gb4; clear hSw; go_simp; try with_reducible rfl)
    try simp only [Act.put, List.setIfInBounds_toArray, List.set_cons_zero, List.set_cons_succ]
    refine wpAnyH_ready (rs := [61]) (by kernel_rfl) (by simp) ?_
    refine consL rfl (fun K hK => ?_) AllReadyH.nil
    go_simp
    refine (HC.out.2.2.2.2.2.2.1 w4 HB4.out).mono ?_
    rintro e w5 ⟨rfl, hb5⟩
    have hb5' : Old w4 w5 := hb5
    have HB5 := Lib.hid (Old.trans HB4.out hb5)
    clear hb5
    refine hK.out _ _ hb5' (fun hHeld => ?_)
    clear hK K
    try simp only [Act.put, List.setIfInBounds_toArray, List.set_cons_zero, List.set_cons_succ]
    refine wpAnyH_old (w1 := w5) hb5' (fun hHeld => ?_) (Old.refl _)
    refine wpAnyH_ready (rs := [69]) (by kernel_rfl) (by simp) ?_
    refine consL rfl (fun K hK => ?_) AllReadyH.nil
    go_simp
    refine (HC.out.2.2.2.2.2.2.2 w5 HB5.out).mono ?_
    rintro e w5' ⟨rfl, hw5⟩
    subst hw5
    refine hK.out _ _ hHeld (fun hHeld => ?_)
    clear hK K
    try simp only [Act.put, List.setIfInBounds_toArray, List.set_cons_zero, List.set_cons_succ]
    refine takeL (i := 70) (v := ?_) rfl (by kernel_rfl) (by kernel_rfl) (by kernel_rfl) (fun _ _ _ h => h) (Or.inl ⟨by rfl, ?_⟩) hHeld ?_
    rotate_left
    focus (intro wq hSw; clear hSw; go_simp; try with_reducible rfl)
    try simp only [Act.put, List.setIfInBounds_toArray, List.set_cons_zero, List.set_cons_succ]
    refine takeL (i := 71) (v := ?_) rfl (by kernel_rfl) (by kernel_rfl) (by kernel_rfl) (fun _ _ _ h => h) (Or.inl ⟨by rfl, ?_⟩) hHeld ?_
    rotate_left
    focus (intro wq hSw; clear hSw; go_simp; try with_reducible rfl)
    try simp only [Act.put, List.setIfInBounds_toArray, List.set_cons_zero, List.set_cons_succ]
    refine wpAnyH_done (by kernel_rfl) ?_ _
    refine NoPanic.normal ?_
    clear hHeld
    have H5 := Lib.hid (show Below wA.heap.size wA w5 from HB5.out)
    have g1 := (H.out.2.2.2.2.1.below H5.out).cell 1
    have g2 := (H.out.2.2.2.2.1.below H5.out).cell 2
    simp only [List.getElem?_toArray, List.getElem?_cons_succ, List.getElem?_cons_zero] at g1 g2
    go_wp2_with fail
    refine (all_any (some ⟨p, 0, none⟩) x.conn x.slot w5).mono ?_
    rintro e w6 ⟨rfl, hb6, k0, k1, k2, hs6⟩
    obtain ⟨Y, hY⟩ : ∃ Y, w5.heap.size = Y := ⟨_, rfl⟩
    rw [hY] at k0 k1 k2 hs6
    obtain ⟨At, mt, ct, mb, hTA, hTS⟩ := H.out.1
    have hge := (hTA.below H5.out).ge
    have hM6 : AllMine Y B p At mt ct mb T x.conn x.slot (Y + 3) 0 w6 := ⟨k0, k1, k2, (hTA.below H5.out).below hb6, by omega, fun y hy => by have := (hge y hy).2; omega⟩
    have hXY : X < Y := by have h1 := (H.out.2.2.2.2.1).lt; have h2 := H5.out.size; omega
    have hAY : wA.heap.size ≤ Y := by have h2 := H5.out.size; omega
    have H6 := Lib.hid (And.intro hM6 (And.intro (H5.out.trans (hb6.mono H5.out.size)) (And.intro hs6 (And.intro hXY hAY))))
    rw [hY]
    clear hb6 k0 k1 k2 hs6 hTA hTS hge hM6 hY hXY hAY g1 g2
    have hnn := notNilA #[.pointer (some ⟨Y, 0, none⟩), .pointer (some ⟨Y + 1, 0, none⟩), .pointer (some ⟨Y + 2, 0, none⟩)] w6
    go_wp2_with fail
    obtain ⟨w7, hw7⟩ : ∃ w7, w6.alloc (.cells #[.slice none 0 0] 37) = w7 := ⟨_, rfl⟩
    have hb7 : Below w6.heap.size w6 w7 := by rw [← hw7]; exact (Below.refl _ _).alloc (Nat.le_refl _) _
    have b7 : Blk w7 (Y + 3) 37 #[.slice none 0 0] := by rw [← hw7, ← H6.out.2.2.1]; exact Blk.new _ _ _
    have hs7 : w7.heap.size = Y + 4 := by rw [← hw7]; simp [H6.out.2.2.1]
    have hs6 := H6.out.2.2.1
    rw [hw7]
    try rw [hs6]
    obtain ⟨ls, hls⟩ : ∃ ls, (T.of x.conn x.slot).map PS.h = ls := ⟨_, rfl⟩
    have hll : ls.length = (T.of x.conn x.slot).length := by rw [← hls, List.length_map]
    have H7 := Lib.hid (And.intro (H6.out.1.turn (k' := 0) (Turn.of_below [] hb7) (by simp)) (And.intro (H6.out.2.1.trans (hb7.mono H6.out.2.1.size)) (And.intro hls (And.intro hll b7))))
    clear hw7 hb7 b7 hs6 hls hll
    refine wp_range1g 13 0 (gf := 40) (lb := #[.pointer (some ⟨Y, 0, none⟩), .pointer (some ⟨Y + 1, 0, none⟩), .pointer (some ⟨Y + 2, 0, none⟩)]) (T := []) rfl (fun _ _ => by kernel_rfl)
      (all_iter Y B p At mt ct mb T x.conn x.slot (Y + 3)) (fun k args W h => by obtain ⟨y, _, rfl⟩ := h; rfl) (by simp)
      (fun k W => SmI w7 Y k ls W)
      (fun _ _ _ => False)
      ?hI ?hIx ?hM ?hA ⟨⟨none, 0, 0, H7.out.2.2.2.2, OwnE.nil _ _⟩, Turn.refl _ _⟩ ?hM0 ?hM1 ?hassign ?hbody ?hdone ?hstop
    case hI =>
      rintro k W1 W2 S' ⟨⟨A9, n9, c9, h1, h2⟩, h3⟩ ht hS
      have hS' : ∀ t ∈ S', t = Y + 5 := by
        intro t h
        rcases hS t h with h | ⟨h, _⟩
        · cases h
        · omega
      exact ⟨⟨A9, n9, c9, h1.turn ht (fun h => by have := hS' _ h; omega), h2.turn ht (fun g hg hm => by have := hS' _ hm; have := (h2.lt hg).1; omega)⟩, h3.trans ht (fun y hy => .inr (by have := hS' _ hy; omega))⟩
    case hIx => rintro c k W1 W2 S h; exact h.elim
    case hM =>
      rintro k W1 W2 hM ⟨r, hr⟩ ht
      exact hM.turn ht (by simp; omega)
    case hA =>
      rintro k args W1 W2 h ⟨r, hr⟩ ht
      exact h
    case hM0 => exact H7.out.1
    case hM1 =>
      intro W ht
      exact H7.out.1.turn ht (by simp)
    case hassign =>
      rintro l' args k W K ⟨y, _, rfl⟩ hK
      simp at hK
      gi_wp2
      exact hK
    case hbody =>
      rintro l' k args W hkN hlt ⟨⟨A9, n9, c9, h1, h2⟩, h3⟩ hMi ⟨y, hy, rfl⟩
      have k0 := h1.cell 0
      have f0 := h1.frozen 0
      simp only [List.getElem?_toArray, List.getElem?_cons_zero] at k0
      have hal : Below W.heap.size W (W.alloc (.cells #[.int .i64 y.h] 3)) := (Below.refl _ _).alloc (Nat.le_refl _) _
      have hYW : Y + 6 ≤ W.heap.size := by omega
      have hyl : ls[k]? = some y.h := by rw [← H7.out.2.2.1, List.getElem?_map, hy]; rfl
      have hk1000 : (ls.take k).length ≤ 1000 := by have := H7.out.1.tab.small; have h5 := H7.out.2.2.2.1; have h6 : (T.of x.conn x.slot).length ≤ T.l.length := List.length_filter_le _ _; have h7 := List.length_take_le k ls; omega
      have hb := Lib.hid (And.intro h1 (And.intro h2 (And.intro h3 (And.intro hMi (And.intro hal (And.intro hyl hk1000))))))
      clear h1 h2 h3 hMi hal hyl hy hk1000
      gi_wp2_with (gi_at_builtin; go_must (refine wpListIn_appE Try.eI (.tmp 112) (.tmp 114) (Y + 6) (.slice A9 n9 c9) _ (hb.out.2.1.below hb.out.2.2.2.2.1) (by have := hb.out.2.2.2.2.1.size; omega) (some ⟨W.heap.size, 0, none⟩) 1 1 [y.h] (Blk.rdC Try.eI (Blk.new W 3 #[.int .i64 y.h]) rfl) (fun h => by cases h) (by have := hb.out.2.2.2.2.2.2; simp only [List.length_singleton]; omega) rfl rfl rfl rfl ?_); intro A8 n8 c8 w8 hG; have H8 := Lib.hid hG; clear hG; have b8 := (hb.out.1.below hb.out.2.2.2.2.1).keep (H8.out.grown.block _ (hb.out.1.below hb.out.2.2.2.2.1).lt (fun e => (hb.out.2.1.below hb.out.2.2.2.2.1).ne (hb.out.1.below hb.out.2.2.2.2.1) (by decide) e.symm)); have d8 := b8.cell 0; have f8 := b8.frozen 0; simp only [List.getElem?_toArray, List.getElem?_cons_zero] at d8; have HB8 := Lib.hid b8; clear b8)
      have hT8 : Turn ((Value.slice A9 n9 c9).ownBlock.toList) W w8 := (Turn.of_below _ hb.out.2.2.2.2.1).grown H8.out.grown (fun k hk => .inl (by rw [hk]; simp))
      have hTs : Turn [Y + 3] w8 (w8.setCell ⟨Y + 3, 0, none⟩ (.slice A8 n8 c8)) := (Turn.refl _ _).setCell (.inl (by simp)) _
      have hTT : Turn ((Y + 3) :: (Value.slice A9 n9 c9).ownBlock.toList) W (w8.setCell ⟨Y + 3, 0, none⟩ (.slice A8 n8 c8)) := (hT8.more (fun z hz => List.mem_cons_of_mem _ hz)).trans hTs (fun z hz => .inl (by simp at hz; subst hz; simp))
      have hog : ∀ g, (Value.slice A9 n9 c9).ownBlock = some g → Y + 6 ≤ g := fun g hg => (hb.out.2.1.lt hg).1
      have hin : ∀ z ∈ (Y + 3) :: (Value.slice A9 n9 c9).ownBlock.toList, z = Y + 3 ∨ Y + 6 ≤ z := fun z hz => by
        rcases List.mem_cons.1 hz with e | e
        · exact .inl e
        · exact .inr (hog z (by simpa using e))
      refine ⟨⟨_, hTT, fun hm => by rcases hin _ hm with e | e <;> omega, fun hm => by rcases hin _ hm with e | e <;> omega⟩, ⟨⟨A8, n8, c8, ?_, ?_⟩, hb.out.2.2.1.trans hTT (fun z hz => by rcases hin z hz with e | e; exact .inl (by simp [e]); exact .inr (by omega))⟩, hb.out.2.2.2.1.turn hTT (fun z hz => by rcases hin z hz with e | e <;> omega)⟩
      · have := HB8.out.set_ 0 (.slice A8 n8 c8)
        simpa using this
      · rw [List.take_add_one, hb.out.2.2.2.2.2.1]
        exact H8.out.own.turn hTs (fun g hg hm => by have := (H8.out.own.lt hg).1; simp at hm; omega)
    case hstop => rintro c k W _ _ h; exact h.elim
    case hdone =>
      rintro W hlt ⟨⟨A9, n9, c9, h1, h2⟩, h3⟩ hdf
      rw [List.take_of_length_le (by have := H7.out.2.2.2.1; omega)] at h2
      rw [hs7] at hdf
      have hBW : Below wA.heap.size wA W := below_turn H7.out.2.1 h3 (by simp; have := H6.out.2.2.2.2; omega) H7.out.2.1.size
      have k0 := h1.cell 0
      simp only [List.getElem?_toArray, List.getElem?_cons_zero] at k0
      have HW := Lib.hid (And.intro h1 (And.intro h2 (And.intro hBW (And.intro hdf hlt))))
      clear h1 h2 h3 hdf hBW
      have hRW := HRA.out.1.below HW.out.2.2.1
      obtain ⟨q0, q1, q2⟩ := hRW.cells
      have hml := hRW.row.rd.1
      have HRW := Lib.hid (And.intro hRW (And.intro hml (And.intro (H.out.2.2.2.2.1.below HW.out.2.2.1) H.out.2.2.1.l)))
      clear hRW hml
      obtain ⟨P, hP⟩ : ∃ P, (fun z : PS => decide (z.c = x.conn ∧ z.s = x.slot)) = P := ⟨_, rfl⟩
      have HP := Lib.hid hP
      clear hP
      go_wp2_with fail
      try rw [hs7]
      go_loopw [12, 14] (fun v kk wl => ∃ j : Nat, j ≤ m ∧ kk = .int .i64 (j : Int) ∧ ∃ A8 n8 c8, v = .slice A8 n8 c8 ∧ OwnE Try.eI wl W.heap.size (.slice A8 n8 c8) (((R.l.take j).filter P).map PS.h) ∧ Below W.heap.size W wl) (fun _ kk _ => m - (intOf kk).toNat)
      case atStart => exact ⟨0, by omega, rfl, none, 0, 0, rfl, OwnE.nil _ _, Below.refl _ _⟩
      case round =>
        obtain ⟨j, hj, rfl, A8, n8, c8, rfl, hO, hB⟩ := hrel
        have hRl := HRW.out.1.below hB
        clear q0 q1 q2
        obtain ⟨q0, q1, q2⟩ := hRl.cells
        have bX := HRW.out.2.2.1.below hB
        by_cases hltj : j < m
        · have hlti : (j : Int) < m := by omega
          have hltd : decide ((j : Int) < (m : Int)) = true := decide_eq_true hlti
          have hj0 : ¬ ((j : Int) < 0) := by omega
          obtain ⟨y, hy⟩ : ∃ y, R.l[j]? = some y := ⟨_, List.getElem?_eq_getElem (by rw [HRW.out.2.1]; exact hltj)⟩
          obtain ⟨gg, off, hAe, z0, z1, z2, z3⟩ := rsess_at hRl.row.rd hy
          have HQ := Lib.hid (And.intro hO (And.intro hB (And.intro hy (And.intro hRl (And.intro bX (And.intro z0 (And.intro z1 z2)))))))
          first | subst hAe | cases hAe
          clear hO hB hy hRl bX
          go_wp2_with fail
          by_cases h1 : y.c = x.conn
          · by_cases h2 : y.s = x.slot
            · skip
              have e1 : decide (y.c = x.conn) = true := decide_eq_true h1
              have e2 : decide (y.s = x.slot) = true := decide_eq_true h2
              refine region_old (by kernel_rfl) (fun wd hHeld hSz => ?_)
              have HSz := Lib.hid hSz
              clear hSz
              refine takeL (i := 0) (v := ?_) rfl (by kernel_rfl) (by kernel_rfl) (by kernel_rfl) (fun _ _ _ h => h) (Or.inl ⟨by rfl, ?_⟩) hHeld ?_
              rotate_left
              focus (intro wq hSw; clear hSw; go_simp; try with_reducible rfl)
              try simp only [Act.put, List.setIfInBounds_toArray, List.set_cons_zero, List.set_cons_succ]
              refine takeL (i := 1) (v := ?_) rfl (by kernel_rfl) (by kernel_rfl) (by kernel_rfl) (fun _ _ _ h => h) (Or.inl ⟨by rfl, ?_⟩) hHeld ?_
              rotate_left
              focus (intro wq hSw; clear hSw; go_simp; try with_reducible rfl)
              try simp only [Act.put, List.setIfInBounds_toArray, List.set_cons_zero, List.set_cons_succ]
              refine takeL (i := 2) (v := ?_) rfl (by kernel_rfl) (by kernel_rfl) (by kernel_rfl) (fun _ _ _ h => h) (Or.inl ⟨by rfl, ?_⟩) hHeld ?_
              rotate_left
              focus (intro wq hSw; clear hSw; go_simp; try with_reducible rfl)
              try simp only [Act.put, List.setIfInBounds_toArray, List.set_cons_zero, List.set_cons_succ]
              refine takeL (i := 3) (v := ?_) rfl (by kernel_rfl) (by kernel_rfl) (by kernel_rfl) (fun _ _ _ h => h) (Or.inl ⟨by rfl, ?_⟩) hHeld ?_
              rotate_left
              focus (intro wq hSw; obtain ⟨q0, _, _⟩ := (HQ.out.2.2.2.1.below hSw).cells; clear hSw; go_simp; try with_reducible rfl)
              try simp only [Act.put, List.setIfInBounds_toArray, List.set_cons_zero, List.set_cons_succ]
              refine takeL (i := 4) (v := ?_) rfl (by kernel_rfl) (by kernel_rfl) (by kernel_rfl) (fun _ _ _ h => h) (Or.inl ⟨by rfl, ?_⟩) hHeld ?_
              rotate_left
              focus (intro wq hSw; clear hSw; go_simp; try with_reducible rfl)
              try simp only [Act.put, List.setIfInBounds_toArray, List.set_cons_zero, List.set_cons_succ]
              refine takeL (i := 5) (v := ?_) rfl (by kernel_rfl) (by kernel_rfl) (by kernel_rfl) (fun _ _ _ h => h) (Or.inl ⟨by rfl, ?_⟩) hHeld ?_
              rotate_left
              focus (intro wq hSw; clear hSw; go_simp; try with_reducible rfl)
              try simp only [Act.put, List.setIfInBounds_toArray, List.set_cons_zero, List.set_cons_succ]
              refine takeL (i := 6) (v := ?_) rfl (by kernel_rfl) (by kernel_rfl) (by kernel_rfl) (fun _ _ _ h => h) (Or.inl ⟨by rfl, ?_⟩) hHeld ?_
              rotate_left
              focus (intro wq hSw; clear hSw; go_simp; try with_reducible rfl)
              try simp only [Act.put, List.setIfInBounds_toArray, List.set_cons_zero, List.set_cons_succ]
              refine takeL (i := 7) (v := ?_) rfl (by kernel_rfl) (by kernel_rfl) (by kernel_rfl) (fun _ _ _ h => h) (Or.inl ⟨by rfl, ?_⟩) hHeld ?_
              rotate_left
              focus (intro wq hSw; have z1 := (hSw.cell (p := ⟨gg, off + j * 4 + 1, none⟩) (cell_in HQ.out.2.2.2.2.2.2.1)).trans HQ.out.2.2.2.2.2.2.1; clear hSw; go_simp; try with_reducible rfl)
              try simp only [Act.put, List.setIfInBounds_toArray, List.set_cons_zero, List.set_cons_succ]
              refine takeL (i := 8) (v := ?_) rfl (by kernel_rfl) (by kernel_rfl) (by kernel_rfl) (fun _ _ _ h => h) (Or.inl ⟨by rfl, ?_⟩) hHeld ?_
              rotate_left
              focus (intro wq hSw; clear hSw; go_simp; try with_reducible rfl)
              try simp only [Act.put, List.setIfInBounds_toArray, List.set_cons_zero, List.set_cons_succ]
              refine takeL (i := 9) (v := ?_) rfl (by kernel_rfl) (by kernel_rfl) (by kernel_rfl) (fun _ _ _ h => h) (Or.inl ⟨by rfl, ?_⟩) hHeld ?_
              rotate_left
              focus (intro wq hSw; have gb1 := (HQ.out.2.2.2.2.1.below hSw).cell 1; have gb2 := (HQ.out.2.2.2.2.1.below hSw).cell 2; simp only [List.getElem?_toArray, List.getElem?_cons_succ, List.getElem?_cons_zero] at gb1 gb2; clear hSw; go_simp; try with_reducible rfl)
              try simp only [Act.put, List.setIfInBounds_toArray, List.set_cons_zero, List.set_cons_succ]
              refine takeL (i := 10) (v := ?_) rfl (by kernel_rfl) (by kernel_rfl) (by kernel_rfl) (fun _ _ _ h => h) (Or.inl ⟨by rfl, ?_⟩) hHeld ?_
              rotate_left
              focus (intro wq hSw; clear hSw; go_simp; try with_reducible rfl)
              try simp only [Act.put, List.setIfInBounds_toArray, List.set_cons_zero, List.set_cons_succ]
              refine takeL (i := 11) (v := ?_) rfl (by kernel_rfl) (by kernel_rfl) (by kernel_rfl) (fun _ _ _ h => h) (Or.inl ⟨by rfl, ?_⟩) hHeld ?_
              rotate_left
              focus (intro wq hSw; clear hSw; go_simp; try with_reducible rfl)
              try simp only [Act.put, List.setIfInBounds_toArray, List.set_cons_zero, List.set_cons_succ]
              refine takeL (i := 12) (v := ?_) rfl (by kernel_rfl) (by kernel_rfl) (by kernel_rfl) (fun _ _ _ h => h) (Or.inl ⟨by rfl, ?_⟩) hHeld ?_
              rotate_left
              focus (intro wq hSw; clear hSw; go_simp; try with_reducible rfl)
              try simp only [Act.put, List.setIfInBounds_toArray, List.set_cons_zero, List.set_cons_succ]
              refine takeL (i := 13) (v := ?_) rfl (by kernel_rfl) (by kernel_rfl) (by kernel_rfl) (fun _ _ _ h => h) (Or.inl ⟨by rfl, ?_⟩) hHeld ?_
              rotate_left
              focus (intro wq hSw; clear hSw; go_simp; try with_reducible rfl)
              try simp only [Act.put, List.setIfInBounds_toArray, List.set_cons_zero, List.set_cons_succ]
              refine takeL (i := 14) (v := ?_) rfl (by kernel_rfl) (by kernel_rfl) (by kernel_rfl) (fun _ _ _ h => h) (Or.inl ⟨by rfl, ?_⟩) hHeld ?_
              rotate_left
              focus (intro wq hSw; clear hSw; go_simp; try with_reducible rfl)
              try simp only [Act.put, List.setIfInBounds_toArray, List.set_cons_zero, List.set_cons_succ]
              refine takeL (i := 15) (v := ?_) rfl (by kernel_rfl) (by kernel_rfl) (by kernel_rfl) (fun _ _ _ h => h) (Or.inl ⟨by rfl, ?_⟩) hHeld ?_
              rotate_left
              focus (intro wq hSw; obtain ⟨q0, _, _⟩ := (HQ.out.2.2.2.1.below hSw).cells; clear hSw; go_simp; try with_reducible rfl)
              try simp only [Act.put, List.setIfInBounds_toArray, List.set_cons_zero, List.set_cons_succ]
              refine takeL (i := 16) (v := ?_) rfl (by kernel_rfl) (by kernel_rfl) (by kernel_rfl) (fun _ _ _ h => h) (Or.inl ⟨by rfl, ?_⟩) hHeld ?_
              rotate_left
              focus (intro wq hSw; clear hSw; go_simp; try with_reducible rfl)
              try simp only [Act.put, List.setIfInBounds_toArray, List.set_cons_zero, List.set_cons_succ]
              refine takeL (i := 17) (v := ?_) rfl (by kernel_rfl) (by kernel_rfl) (by kernel_rfl) (fun _ _ _ h => h) (Or.inl ⟨by rfl, ?_⟩) hHeld ?_
              rotate_left
              focus (intro wq hSw; clear hSw; go_simp; try with_reducible rfl)
              try simp only [Act.put, List.setIfInBounds_toArray, List.set_cons_zero, List.set_cons_succ]
              refine takeL (i := 18) (v := ?_) rfl (by kernel_rfl) (by kernel_rfl) (by kernel_rfl) (fun _ _ _ h => h) (Or.inl ⟨by rfl, ?_⟩) hHeld ?_
              rotate_left
              focus (intro wq hSw; clear hSw; go_simp; try with_reducible rfl)
              try simp only [Act.put, List.setIfInBounds_toArray, List.set_cons_zero, List.set_cons_succ]
              refine takeL (i := 19) (v := ?_) rfl (by kernel_rfl) (by kernel_rfl) (by kernel_rfl) (fun _ _ _ h => h) (Or.inl ⟨by rfl, ?_⟩) hHeld ?_
              rotate_left
              focus (intro wq hSw; have z2 := (hSw.cell (p := ⟨gg, off + j * 4 + 2, none⟩) (cell_in HQ.out.2.2.2.2.2.2.2)).trans HQ.out.2.2.2.2.2.2.2; clear hSw; go_simp; try with_reducible rfl)
              try simp only [Act.put, List.setIfInBounds_toArray, List.set_cons_zero, List.set_cons_succ]
              refine takeL (i := 20) (v := ?_) rfl (by kernel_rfl) (by kernel_rfl) (by kernel_rfl) (fun _ _ _ h => h) (Or.inl ⟨by rfl, ?_⟩) hHeld ?_
              rotate_left
              focus (intro wq hSw; clear hSw; go_simp; try with_reducible rfl)
              try simp only [Act.put, List.setIfInBounds_toArray, List.set_cons_zero, List.set_cons_succ]
              refine takeL (i := 21) (v := ?_) rfl (by kernel_rfl) (by kernel_rfl) (by kernel_rfl) (fun _ _ _ h => h) (Or.inl ⟨by rfl, ?_⟩) hHeld ?_
              rotate_left
              focus (intro wq hSw; have gb1 := (HQ.out.2.2.2.2.1.below hSw).cell 1; have gb2 := (HQ.out.2.2.2.2.1.below hSw).cell 2; simp only [List.getElem?_toArray, List.getElem?_cons_succ, List.getElem?_cons_zero] at gb1 gb2; clear hSw; go_simp; try with_reducible rfl)
              try simp only [Act.put, List.setIfInBounds_toArray, List.set_cons_zero, List.set_cons_succ]
              refine takeL (i := 22) (v := ?_) rfl (by kernel_rfl) (by kernel_rfl) (by kernel_rfl) (fun _ _ _ h => h) (Or.inl ⟨by rfl, ?_⟩) hHeld ?_
              rotate_left
              focus (intro wq hSw; clear hSw; go_simp; try with_reducible rfl)
              try simp only [Act.put, List.setIfInBounds_toArray, List.set_cons_zero, List.set_cons_succ]
              refine takeL (i := 23) (v := ?_) rfl (by kernel_rfl) (by kernel_rfl) (by kernel_rfl) (fun _ _ _ h => h) (Or.inl ⟨by rfl, ?_⟩) hHeld ?_
              rotate_left
              focus (intro wq hSw; clear hSw; go_simp; try with_reducible rfl)
              try simp only [Act.put, List.setIfInBounds_toArray, List.set_cons_zero, List.set_cons_succ]
              refine wpAnyH_done (by kernel_rfl) ?_ _
              refine NoPanic.normal ?_
              have HH := Lib.hid hHeld
              clear hHeld
              have hq : P y = true := by rw [← HP.out]; exact decide_eq_true ⟨h1, h2⟩
              have hal : Below wd.heap.size wd (wd.alloc (.cells #[.int .i64 y.h] 3)) := (Below.refl _ _).alloc (Nat.le_refl _) _
              have hBd : Below W.heap.size W wd := HQ.out.2.1.trans (Below.mono HH.out HQ.out.2.1.size)
              have z0 := (Below.cell (p := ⟨gg, off + j * 4, none⟩) HH.out (cell_in HQ.out.2.2.2.2.2.1)).trans HQ.out.2.2.2.2.2.1
              obtain ⟨q0, q1, q2⟩ := (HQ.out.2.2.2.1.below HH.out).cells
              have HAl := Lib.hid (And.intro hal (And.intro hBd (And.intro (HQ.out.1.below HH.out) hq)))
              clear hal hBd hq h1 h2
              go_wp2_with (at_builtin; go_must (refine wp_appE Try.eI (.tmp 149) (.tmp 158) W.heap.size (.slice A8 n8 c8) _ (HAl.out.2.2.1.below HAl.out.1) (by have := HAl.out.2.1.size; have := HAl.out.1.size; omega) (some ⟨wd.heap.size, 0, none⟩) 1 1 [y.h] (Blk.rdC Try.eI (Blk.new wd 3 #[.int .i64 y.h]) rfl) (fun h => by cases h) (by rw [List.length_map]; have := filter_len R.l P j; simp; omega) rfl rfl rfl rfl ?_); intro A6 n6 c6 w9 hG; have H9 := Lib.hid hG; clear hG)
              go_roundw
              case measure => simp [intOf]; omega
              exact ⟨j + 1, by omega, by simp, A6, n6, c6, rfl, by rw [filter_take_t _ _ _ _ HQ.out.2.2.1 HAl.out.2.2.2, List.map_append]; exact H9.out.own, (HAl.out.2.1.trans (HAl.out.1.mono HAl.out.2.1.size)).trans H9.out.below⟩
            · have e1 : decide (y.c = x.conn) = true := decide_eq_true h1
              have e2 : decide (y.s = x.slot) = false := decide_eq_false h2
              refine region_old (by kernel_rfl) (fun wd hHeld hSz => ?_)
              have HSz := Lib.hid hSz
              clear hSz
              refine takeL (i := 0) (v := ?_) rfl (by kernel_rfl) (by kernel_rfl) (by kernel_rfl) (fun _ _ _ h => h) (Or.inl ⟨by rfl, ?_⟩) hHeld ?_
              rotate_left
              focus (intro wq hSw; clear hSw; go_simp; try with_reducible rfl)
              try simp only [Act.put, List.setIfInBounds_toArray, List.set_cons_zero, List.set_cons_succ]
              refine takeL (i := 1) (v := ?_) rfl (by kernel_rfl) (by kernel_rfl) (by kernel_rfl) (fun _ _ _ h => h) (Or.inl ⟨by rfl, ?_⟩) hHeld ?_
              rotate_left
              focus (intro wq hSw; clear hSw; go_simp; try with_reducible rfl)
              try simp only [Act.put, List.setIfInBounds_toArray, List.set_cons_zero, List.set_cons_succ]
              refine takeL (i := 2) (v := ?_) rfl (by kernel_rfl) (by kernel_rfl) (by kernel_rfl) (fun _ _ _ h => h) (Or.inl ⟨by rfl, ?_⟩) hHeld ?_
              rotate_left
              focus (intro wq hSw; clear hSw; go_simp; try with_reducible rfl)
              try simp only [Act.put, List.setIfInBounds_toArray, List.set_cons_zero, List.set_cons_succ]
              refine takeL (i := 3) (v := ?_) rfl (by kernel_rfl) (by kernel_rfl) (by kernel_rfl) (fun _ _ _ h => h) (Or.inl ⟨by rfl, ?_⟩) hHeld ?_
              rotate_left
              focus (intro wq hSw; obtain ⟨q0, _, _⟩ := (HQ.out.2.2.2.1.below hSw).cells; clear hSw; go_simp; try with_reducible rfl)
              try simp only [Act.put, List.setIfInBounds_toArray, List.set_cons_zero, List.set_cons_succ]
              refine takeL (i := 4) (v := ?_) rfl (by kernel_rfl) (by kernel_rfl) (by kernel_rfl) (fun _ _ _ h => h) (Or.inl ⟨by rfl, ?_⟩) hHeld ?_
              rotate_left
              focus (intro wq hSw; clear hSw; go_simp; try with_reducible rfl)
              try simp only [Act.put, List.setIfInBounds_toArray, List.set_cons_zero, List.set_cons_succ]
              refine takeL (i := 5) (v := ?_) rfl (by kernel_rfl) (by kernel_rfl) (by kernel_rfl) (fun _ _ _ h => h) (Or.inl ⟨by rfl, ?_⟩) hHeld ?_
              rotate_left
              focus (intro wq hSw; clear hSw; go_simp; try with_reducible rfl)
              try simp only [Act.put, List.setIfInBounds_toArray, List.set_cons_zero, List.set_cons_succ]
              refine takeL (i := 6) (v := ?_) rfl (by kernel_rfl) (by kernel_rfl) (by kernel_rfl) (fun _ _ _ h => h) (Or.inl ⟨by rfl, ?_⟩) hHeld ?_
              rotate_left
              focus (intro wq hSw; clear hSw; go_simp; try with_reducible rfl)
              try simp only [Act.put, List.setIfInBounds_toArray, List.set_cons_zero, List.set_cons_succ]
              refine takeL (i := 7) (v := ?_) rfl (by kernel_rfl) (by kernel_rfl) (by kernel_rfl) (fun _ _ _ h => h) (Or.inl ⟨by rfl, ?_⟩) hHeld ?_
              rotate_left
              focus (intro wq hSw; have z1 := (hSw.cell (p := ⟨gg, off + j * 4 + 1, none⟩) (cell_in HQ.out.2.2.2.2.2.2.1)).trans HQ.out.2.2.2.2.2.2.1; clear hSw; go_simp; try with_reducible rfl)
              try simp only [Act.put, List.setIfInBounds_toArray, List.set_cons_zero, List.set_cons_succ]
              refine takeL (i := 8) (v := ?_) rfl (by kernel_rfl) (by kernel_rfl) (by kernel_rfl) (fun _ _ _ h => h) (Or.inl ⟨by rfl, ?_⟩) hHeld ?_
              rotate_left
              focus (intro wq hSw; clear hSw; go_simp; try with_reducible rfl)
              try simp only [Act.put, List.setIfInBounds_toArray, List.set_cons_zero, List.set_cons_succ]
              refine takeL (i := 9) (v := ?_) rfl (by kernel_rfl) (by kernel_rfl) (by kernel_rfl) (fun _ _ _ h => h) (Or.inl ⟨by rfl, ?_⟩) hHeld ?_
              rotate_left
              focus (intro wq hSw; have gb1 := (HQ.out.2.2.2.2.1.below hSw).cell 1; have gb2 := (HQ.out.2.2.2.2.1.below hSw).cell 2; simp only [List.getElem?_toArray, List.getElem?_cons_succ, List.getElem?_cons_zero] at gb1 gb2; clear hSw; go_simp; try with_reducible rfl)
              try simp only [Act.put, List.setIfInBounds_toArray, List.set_cons_zero, List.set_cons_succ]
              refine takeL (i := 10) (v := ?_) rfl (by kernel_rfl) (by kernel_rfl) (by kernel_rfl) (fun _ _ _ h => h) (Or.inl ⟨by rfl, ?_⟩) hHeld ?_
              rotate_left
              focus (intro wq hSw; clear hSw; go_simp; try with_reducible rfl)
              try simp only [Act.put, List.setIfInBounds_toArray, List.set_cons_zero, List.set_cons_succ]
              refine takeL (i := 11) (v := ?_) rfl (by kernel_rfl) (by kernel_rfl) (by kernel_rfl) (fun _ _ _ h => h) (Or.inl ⟨by rfl, ?_⟩) hHeld ?_
              rotate_left
              focus (intro wq hSw; clear hSw; go_simp; try with_reducible rfl)
              try simp only [Act.put, List.setIfInBounds_toArray, List.set_cons_zero, List.set_cons_succ]
              refine takeL (i := 12) (v := ?_) rfl (by kernel_rfl) (by kernel_rfl) (by kernel_rfl) (fun _ _ _ h => h) (Or.inl ⟨by rfl, ?_⟩) hHeld ?_
              rotate_left
              focus (intro wq hSw; clear hSw; go_simp; try with_reducible rfl)
              try simp only [Act.put, List.setIfInBounds_toArray, List.set_cons_zero, List.set_cons_succ]
              refine takeL (i := 13) (v := ?_) rfl (by kernel_rfl) (by kernel_rfl) (by kernel_rfl) (fun _ _ _ h => h) (Or.inl ⟨by rfl, ?_⟩) hHeld ?_
              rotate_left
              focus (intro wq hSw; clear hSw; go_simp; try with_reducible rfl)
              try simp only [Act.put, List.setIfInBounds_toArray, List.set_cons_zero, List.set_cons_succ]
              refine takeL (i := 14) (v := ?_) rfl (by kernel_rfl) (by kernel_rfl) (by kernel_rfl) (fun _ _ _ h => h) (Or.inl ⟨by rfl, ?_⟩) hHeld ?_
              rotate_left
              focus (intro wq hSw; clear hSw; go_simp; try with_reducible rfl)
              try simp only [Act.put, List.setIfInBounds_toArray, List.set_cons_zero, List.set_cons_succ]
              refine takeL (i := 15) (v := ?_) rfl (by kernel_rfl) (by kernel_rfl) (by kernel_rfl) (fun _ _ _ h => h) (Or.inl ⟨by rfl, ?_⟩) hHeld ?_
              rotate_left
              focus (intro wq hSw; obtain ⟨q0, _, _⟩ := (HQ.out.2.2.2.1.below hSw).cells; clear hSw; go_simp; try with_reducible rfl)
              try simp only [Act.put, List.setIfInBounds_toArray, List.set_cons_zero, List.set_cons_succ]
              refine takeL (i := 16) (v := ?_) rfl (by kernel_rfl) (by kernel_rfl) (by kernel_rfl) (fun _ _ _ h => h) (Or.inl ⟨by rfl, ?_⟩) hHeld ?_
              rotate_left
              focus (intro wq hSw; clear hSw; go_simp; try with_reducible rfl)
              try simp only [Act.put, List.setIfInBounds_toArray, List.set_cons_zero, List.set_cons_succ]
              refine takeL (i := 17) (v := ?_) rfl (by kernel_rfl) (by kernel_rfl) (by kernel_rfl) (fun _ _ _ h => h) (Or.inl ⟨by rfl, ?_⟩) hHeld ?_
              rotate_left
              focus (intro wq hSw; clear hSw; go_simp; try with_reducible rfl)
              try simp only [Act.put, List.setIfInBounds_toArray, List.set_cons_zero, List.set_cons_succ]
              refine takeL (i := 18) (v := ?_) rfl (by kernel_rfl) (by kernel_rfl) (by kernel_rfl) (fun _ _ _ h => h) (Or.inl ⟨by rfl, ?_⟩) hHeld ?_
              rotate_left
              focus (intro wq hSw; clear hSw; go_simp; try with_reducible rfl)
              try simp only [Act.put, List.setIfInBounds_toArray, List.set_cons_zero, List.set_cons_succ]
              refine takeL (i := 19) (v := ?_) rfl (by kernel_rfl) (by kernel_rfl) (by kernel_rfl) (fun _ _ _ h => h) (Or.inl ⟨by rfl, ?_⟩) hHeld ?_
              rotate_left
              focus (intro wq hSw; have z2 := (hSw.cell (p := ⟨gg, off + j * 4 + 2, none⟩) (cell_in HQ.out.2.2.2.2.2.2.2)).trans HQ.out.2.2.2.2.2.2.2; clear hSw; go_simp; try with_reducible rfl)
              try simp only [Act.put, List.setIfInBounds_toArray, List.set_cons_zero, List.set_cons_succ]
              refine takeL (i := 20) (v := ?_) rfl (by kernel_rfl) (by kernel_rfl) (by kernel_rfl) (fun _ _ _ h => h) (Or.inl ⟨by rfl, ?_⟩) hHeld ?_
              rotate_left
              focus (intro wq hSw; clear hSw; go_simp; try with_reducible rfl)
              try simp only [Act.put, List.setIfInBounds_toArray, List.set_cons_zero, List.set_cons_succ]
              refine takeL (i := 21) (v := ?_) rfl (by kernel_rfl) (by kernel_rfl) (by kernel_rfl) (fun _ _ _ h => h) (Or.inl ⟨by rfl, ?_⟩) hHeld ?_
              rotate_left
              focus (intro wq hSw; have gb1 := (HQ.out.2.2.2.2.1.below hSw).cell 1; have gb2 := (HQ.out.2.2.2.2.1.below hSw).cell 2; simp only [List.getElem?_toArray, List.getElem?_cons_succ, List.getElem?_cons_zero] at gb1 gb2; clear hSw; go_simp; try with_reducible rfl)
              try simp only [Act.put, List.setIfInBounds_toArray, List.set_cons_zero, List.set_cons_succ]
              refine takeL (i := 22) (v := ?_) rfl (by kernel_rfl) (by kernel_rfl) (by kernel_rfl) (fun _ _ _ h => h) (Or.inl ⟨by rfl, ?_⟩) hHeld ?_
              rotate_left
              focus (intro wq hSw; clear hSw; go_simp; try with_reducible rfl)
              try simp only [Act.put, List.setIfInBounds_toArray, List.set_cons_zero, List.set_cons_succ]
              refine takeL (i := 23) (v := ?_) rfl (by kernel_rfl) (by kernel_rfl) (by kernel_rfl) (fun _ _ _ h => h) (Or.inl ⟨by rfl, ?_⟩) hHeld ?_
              rotate_left
              focus (intro wq hSw; clear hSw; go_simp; try with_reducible rfl)
              try simp only [Act.put, List.setIfInBounds_toArray, List.set_cons_zero, List.set_cons_succ]
              refine wpAnyH_done (by kernel_rfl) ?_ _
              refine NoPanic.normal ?_
              have HH := Lib.hid hHeld
              clear hHeld
              have hq : P y = false := by rw [← HP.out]; exact decide_eq_false (fun e => h2 e.2)
              have hst := filter_take_f _ _ _ _ HQ.out.2.2.1 hq
              have HS9 := Lib.hid hst
              clear hst hq
              go_wp2_with fail
              go_roundw
              case measure => simp [intOf]; omega
              exact ⟨j + 1, by omega, by simp, A8, n8, c8, rfl, by rw [HS9.out]; exact HQ.out.1.below HH.out, HQ.out.2.1.trans (Below.mono HH.out HQ.out.2.1.size)⟩
          · have e1 : decide (y.c = x.conn) = false := decide_eq_false h1
            refine region_old (by kernel_rfl) (fun wd hHeld hSz => ?_)
            have HSz := Lib.hid hSz
            clear hSz
            refine takeL (i := 0) (v := ?_) rfl (by kernel_rfl) (by kernel_rfl) (by kernel_rfl) (fun _ _ _ h => h) (Or.inl ⟨by rfl, ?_⟩) hHeld ?_
            rotate_left
            focus (intro wq hSw; clear hSw; go_simp; try with_reducible rfl)
            try simp only [Act.put, List.setIfInBounds_toArray, List.set_cons_zero, List.set_cons_succ]
            refine takeL (i := 1) (v := ?_) rfl (by kernel_rfl) (by kernel_rfl) (by kernel_rfl) (fun _ _ _ h => h) (Or.inl ⟨by rfl, ?_⟩) hHeld ?_
            rotate_left
            focus (intro wq hSw; clear hSw; go_simp; try with_reducible rfl)
            try simp only [Act.put, List.setIfInBounds_toArray, List.set_cons_zero, List.set_cons_succ]
            refine takeL (i := 2) (v := ?_) rfl (by kernel_rfl) (by kernel_rfl) (by kernel_rfl) (fun _ _ _ h => h) (Or.inl ⟨by rfl, ?_⟩) hHeld ?_
            rotate_left
            focus (intro wq hSw; clear hSw; go_simp; try with_reducible rfl)
            try simp only [Act.put, List.setIfInBounds_toArray, List.set_cons_zero, List.set_cons_succ]
            refine takeL (i := 3) (v := ?_) rfl (by kernel_rfl) (by kernel_rfl) (by kernel_rfl) (fun _ _ _ h => h) (Or.inl ⟨by rfl, ?_⟩) hHeld ?_
            rotate_left
            focus (intro wq hSw; obtain ⟨q0, _, _⟩ := (HQ.out.2.2.2.1.below hSw).cells; clear hSw; go_simp; try with_reducible rfl)
            try simp only [Act.put, List.setIfInBounds_toArray, List.set_cons_zero, List.set_cons_succ]
            refine takeL (i := 4) (v := ?_) rfl (by kernel_rfl) (by kernel_rfl) (by kernel_rfl) (fun _ _ _ h => h) (Or.inl ⟨by rfl, ?_⟩) hHeld ?_
            rotate_left
            focus (intro wq hSw; clear hSw; go_simp; try with_reducible rfl)
            try simp only [Act.put, List.setIfInBounds_toArray, List.set_cons_zero, List.set_cons_succ]
            refine takeL (i := 5) (v := ?_) rfl (by kernel_rfl) (by kernel_rfl) (by kernel_rfl) (fun _ _ _ h => h) (Or.inl ⟨by rfl, ?_⟩) hHeld ?_
            rotate_left
            focus (intro wq hSw; clear hSw; go_simp; try with_reducible rfl)
            try simp only [Act.put, List.setIfInBounds_toArray, List.set_cons_zero, List.set_cons_succ]
            refine takeL (i := 6) (v := ?_) rfl (by kernel_rfl) (by kernel_rfl) (by kernel_rfl) (fun _ _ _ h => h) (Or.inl ⟨by rfl, ?_⟩) hHeld ?_
            rotate_left
            focus (intro wq hSw; clear hSw; go_simp; try with_reducible rfl)
            try simp only [Act.put, List.setIfInBounds_toArray, List.set_cons_zero, List.set_cons_succ]
            refine takeL (i := 7) (v := ?_) rfl (by kernel_rfl) (by kernel_rfl) (by kernel_rfl) (fun _ _ _ h => h) (Or.inl ⟨by rfl, ?_⟩) hHeld ?_
            rotate_left
            focus (intro wq hSw; have z1 := (hSw.cell (p := ⟨gg, off + j * 4 + 1, none⟩) (cell_in HQ.out.2.2.2.2.2.2.1)).trans HQ.out.2.2.2.2.2.2.1; clear hSw; go_simp; try with_reducible rfl)
            try simp only [Act.put, List.setIfInBounds_toArray, List.set_cons_zero, List.set_cons_succ]
            refine takeL (i := 8) (v := ?_) rfl (by kernel_rfl) (by kernel_rfl) (by kernel_rfl) (fun _ _ _ h => h) (Or.inl ⟨by rfl, ?_⟩) hHeld ?_
            rotate_left
            focus (intro wq hSw; clear hSw; go_simp; try with_reducible rfl)
            try simp only [Act.put, List.setIfInBounds_toArray, List.set_cons_zero, List.set_cons_succ]
            refine takeL (i := 9) (v := ?_) rfl (by kernel_rfl) (by kernel_rfl) (by kernel_rfl) (fun _ _ _ h => h) (Or.inl ⟨by rfl, ?_⟩) hHeld ?_
            rotate_left
            focus (intro wq hSw; have gb1 := (HQ.out.2.2.2.2.1.below hSw).cell 1; have gb2 := (HQ.out.2.2.2.2.1.below hSw).cell 2; simp only [List.getElem?_toArray, List.getElem?_cons_succ, List.getElem?_cons_zero] at gb1 gb2; clear hSw; go_simp; try with_reducible rfl)
            try simp only [Act.put, List.setIfInBounds_toArray, List.set_cons_zero, List.set_cons_succ]
            refine takeL (i := 10) (v := .bool false) rfl (by kernel_rfl) (by kernel_rfl) (by kernel_rfl) (fun _ _ _ h => h) (Or.inl ⟨by rfl, ?_⟩) hHeld ?_
            focus (intro wq hSw; clear hSw; go_simp; first | done | exact h1 | simp [h1])
            try simp only [Act.put, List.setIfInBounds_toArray, List.set_cons_zero, List.set_cons_succ]
            refine takeL (i := 11) (v := ?_) rfl (by kernel_rfl) (by kernel_rfl) (by kernel_rfl) (fun _ _ _ h => h) (Or.inl ⟨by rfl, ?_⟩) hHeld ?_
            rotate_left
            focus (intro wq hSw; clear hSw; go_simp; try with_reducible rfl)
            try simp only [Act.put, List.setIfInBounds_toArray, List.set_cons_zero, List.set_cons_succ]
            refine takeL (i := 12) (v := undef) rfl (by kernel_rfl) (by kernel_rfl) (by kernel_rfl) (fun _ _ _ h => h) (Or.inr ⟨by rfl, rfl⟩) hHeld ?_
            try simp only [Act.put, List.setIfInBounds_toArray, List.set_cons_zero, List.set_cons_succ]
            refine takeL (i := 13) (v := undef) rfl (by kernel_rfl) (by kernel_rfl) (by kernel_rfl) (fun _ _ _ h => h) (Or.inr ⟨by rfl, rfl⟩) hHeld ?_
            try simp only [Act.put, List.setIfInBounds_toArray, List.set_cons_zero, List.set_cons_succ]
            refine takeL (i := 14) (v := undef) rfl (by kernel_rfl) (by kernel_rfl) (by kernel_rfl) (fun _ _ _ h => h) (Or.inr ⟨by rfl, rfl⟩) hHeld ?_
            try simp only [Act.put, List.setIfInBounds_toArray, List.set_cons_zero, List.set_cons_succ]
            refine takeL (i := 15) (v := undef) rfl (by kernel_rfl) (by kernel_rfl) (by kernel_rfl) (fun _ _ _ h => h) (Or.inr ⟨by rfl, rfl⟩) hHeld ?_
            try simp only [Act.put, List.setIfInBounds_toArray, List.set_cons_zero, List.set_cons_succ]
            refine takeL (i := 16) (v := undef) rfl (by kernel_rfl) (by kernel_rfl) (by kernel_rfl) (fun _ _ _ h => h) (Or.inr ⟨by rfl, rfl⟩) hHeld ?_
            try simp only [Act.put, List.setIfInBounds_toArray, List.set_cons_zero, List.set_cons_succ]
            refine takeL (i := 17) (v := undef) rfl (by kernel_rfl) (by kernel_rfl) (by kernel_rfl) (fun _ _ _ h => h) (Or.inr ⟨by rfl, rfl⟩) hHeld ?_
            try simp only [Act.put, List.setIfInBounds_toArray, List.set_cons_zero, List.set_cons_succ]
            refine takeL (i := 18) (v := undef) rfl (by kernel_rfl) (by kernel_rfl) (by kernel_rfl) (fun _ _ _ h => h) (Or.inr ⟨by rfl, rfl⟩) hHeld ?_
            try simp only [Act.put, List.setIfInBounds_toArray, List.set_cons_zero, List.set_cons_succ]
            refine takeL (i := 19) (v := undef) rfl (by kernel_rfl) (by kernel_rfl) (by kernel_rfl) (fun _ _ _ h => h) (Or.inr ⟨by rfl, rfl⟩) hHeld ?_
            try simp only [Act.put, List.setIfInBounds_toArray, List.set_cons_zero, List.set_cons_succ]
            refine takeL (i := 20) (v := undef) rfl (by kernel_rfl) (by kernel_rfl) (by kernel_rfl) (fun _ _ _ h => h) (Or.inr ⟨by rfl, rfl⟩) hHeld ?_
            try simp only [Act.put, List.setIfInBounds_toArray, List.set_cons_zero, List.set_cons_succ]
            refine takeL (i := 21) (v := undef) rfl (by kernel_rfl) (by kernel_rfl) (by kernel_rfl) (fun _ _ _ h => h) (Or.inr ⟨by rfl, rfl⟩) hHeld ?_
            try simp only [Act.put, List.setIfInBounds_toArray, List.set_cons_zero, List.set_cons_succ]
            refine takeL (i := 22) (v := undef) rfl (by kernel_rfl) (by kernel_rfl) (by kernel_rfl) (fun _ _ _ h => h) (Or.inr ⟨by rfl, rfl⟩) hHeld ?_
            try simp only [Act.put, List.setIfInBounds_toArray, List.set_cons_zero, List.set_cons_succ]
            refine takeL (i := 23) (v := ?_) rfl (by kernel_rfl) (by kernel_rfl) (by kernel_rfl) (fun _ _ _ h => h) (Or.inl ⟨by rfl, ?_⟩) hHeld ?_
            rotate_left
            focus (intro wq hSw; clear hSw; go_simp; try with_reducible rfl)
            try simp only [Act.put, List.setIfInBounds_toArray, List.set_cons_zero, List.set_cons_succ]
            refine wpAnyH_done (by kernel_rfl) ?_ _
            refine NoPanic.normal ?_
            have HH := Lib.hid hHeld
            clear hHeld
            have hq : P y = false := by rw [← HP.out]; exact decide_eq_false (fun e => h1 e.1)
            have hst := filter_take_f _ _ _ _ HQ.out.2.2.1 hq
            have HS9 := Lib.hid hst
            clear hst hq
            go_wp2_with fail
            go_roundw
            case measure => simp [intOf]; omega
            exact ⟨j + 1, by omega, by simp, A8, n8, c8, rfl, by rw [HS9.out]; exact HQ.out.1.below HH.out, HQ.out.2.1.trans (Below.mono HH.out HQ.out.2.1.size)⟩
        · obtain rfl : j = m := by omega
          have hlti : ¬ ((j : Int) < j) := by omega
          rw [show R.l.take j = R.l from List.take_of_length_le (by rw [HRW.out.2.1]; exact Nat.le_refl _)] at hO
          have hlsR : (R.l.filter P).map PS.h = ls := by rw [HRW.out.2.2.2, ← HP.out]; exact H7.out.2.2.1
          rw [hlsR] at hO
          have b9 := (HW.out.1.below hB).cell 0
          simp only [List.getElem?_toArray, List.getElem?_cons_zero] at b9
          have hlsl : ls.length ≤ 100000 := by rw [← hlsR, List.length_map]; exact Nat.le_trans (List.length_filter_le _ _) (by have := HRW.out.1.s1; omega)
          have hl := lists_any A9 n9 c9 A8 n8 c8 ls wr (HW.out.2.1.rd.below hB) hO.rd hlsl
          have HQ := Lib.hid (And.intro hB hl)
          clear hO hB hl hRl bX hlsR hlsl
          go_wp2_with fail
          refine HQ.out.2.mono ?_
          rintro e w9 ⟨rfl, hb9⟩
          have hb9' : Below W.heap.size W w9 := HQ.out.1.trans (hb9.mono HQ.out.1.size)
          have hd9 : w9.heap[Y + 4]? = some (.deferred (some [])) := (hb9'.block _ (by have := HW.out.2.2.2.2; omega)).trans HW.out.2.2.2.1
          have H9 := Lib.hid (And.intro hb9' hd9)
          clear hb9 hb9' hd9
          go_wp2_with fail
          have hT9 : Turn [Y + 4] w9 (w9.putObj (Y + 4) (.deferred none)) := (Turn.refl _ w9).putObj (.inl (by simp)) _
          refine ret_mark (v := .bool true) rfl H9.out.2 (fun W' => by simp [results, Try.results20, go_sem]) ?_
          have hwA : Below w.heap.size w W := H.out.2.2.2.2.2.1.trans (HW.out.2.2.1.mono H.out.2.2.2.2.2.1.size)
          exact ⟨rfl, below_turn (hwA.trans (H9.out.1.mono hwA.size)) hT9 (by simp; have := H6.out.2.2.2; have := H.out.2.2.2.2.2.2; omega) (by have := H9.out.1.size; have := hwA.size; omega)⟩
end Go.Proofs.Ytnpncbpbeikcaaa
