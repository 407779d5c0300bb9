/-
  Sessions: the table; New, user, slots; functions that a row is asked with.
-/
import Derived.Test.YtnpncbpbeikcaaaSes1
import Derived.Test.YtnpncbpbeikcaaaReg
import Derived.Test.YtnpncbpbeikcaaaRpc1
namespace Go.Proofs.Ytnpncbpbeikcaaa
open Go.RowKit

/-- A table, plainly. n: no more logins than that. -/
structure PT where
  l : List PS
  last : Int
  who : Who
  n : Nat
def PS.wf (x : PS) : Prop := wf64 x.h ∧ wf64 x.c ∧ wf64 x.s
/-- The table at p, its slice and its map. -/
structure TbAt (W : World) (B p : Nat) (A : Option Addr) (m c mb : Nat) (T : PT) : Prop where
  blk : Blk W p 54 #[.slice A m c, .int .i64 T.last, .map (some mb)]
  row : OwnE Try.eS W B (.slice A m c) T.l
  map : MapIs W mb T.n T.who
  lp : B ≤ p
  lm : B ≤ mb
  small : T.l.length ≤ 1000
  wf : ∀ x ∈ T.l, x.wf
def blocks (A : Option Addr) (m c mb p : Nat) : List Nat := p :: mb :: (Value.slice A m c).ownBlock.toList
def Tb (W : World) (B p : Nat) (S : List Nat) (T : PT) : Prop := ∃ A m c mb, TbAt W B p A m c mb T ∧ S = blocks A m c mb p
theorem TbAt.ge {W : World} {B p : Nat} {A : Option Addr} {m c mb : Nat} {T : PT} (h : TbAt W B p A m c mb T) : ∀ x ∈ blocks A m c mb p, B ≤ x ∧ x < W.heap.size := by
  intro x hx
  unfold blocks at hx
  rcases List.mem_cons.1 hx with rfl | hx
  · exact ⟨h.lp, h.blk.lt⟩
  · rcases List.mem_cons.1 hx with rfl | hx
    · exact ⟨h.lm, h.map.lt⟩
    · have := h.row.lt (g := x) (by simpa using hx)
      exact this
theorem TbAt.below {W W' : World} {B p : Nat} {A : Option Addr} {m c mb : Nat} {T : PT} (h : TbAt W B p A m c mb T) (hb : Below W.heap.size W W') : TbAt W' B p A m c mb T :=
  ⟨h.blk.below hb, h.row.below hb, h.map.keep (hb.block _ h.map.lt), h.lp, h.lm, h.small, h.wf⟩
theorem TbAt.turn {W W' : World} {B p : Nat} {A : Option Addr} {m c mb : Nat} {T : PT} (h : TbAt W B p A m c mb T) {S : List Nat} (ht : Turn S W W') (hS : ∀ x ∈ S, x < B) : TbAt W' B p A m c mb T :=
  ⟨h.blk.turn ht (fun hm => by have := hS _ hm; have := h.lp; omega), h.row.turn ht (fun g hg hm => by have := hS _ hm; have := (h.row.lt hg).1; omega), h.map.keep (ht.block _ h.map.lt (fun hm => by have := hS _ hm; have := h.lm; omega)), h.lp, h.lm, h.small, h.wf⟩
theorem Tb.below {W W' : World} {B p : Nat} {S : List Nat} {T : PT} (h : Tb W B p S T) (hb : Below W.heap.size W W') : Tb W' B p S T := by
  obtain ⟨A, m, c, mb, h, e⟩ := h
  exact ⟨A, m, c, mb, h.below hb, e⟩
theorem Tb.turn {W W' : World} {B p : Nat} {S : List Nat} {T : PT} (h : Tb W B p S T) {S' : List Nat} (ht : Turn S' W W') (hS : ∀ x ∈ S', x < B) : Tb W' B p S T := by
  obtain ⟨A, m, c, mb, h, e⟩ := h
  exact ⟨A, m, c, mb, h.turn ht hS, e⟩
theorem Tb.ge {W : World} {B p : Nat} {S : List Nat} {T : PT} (h : Tb W B p S T) : ∀ x ∈ S, B ≤ x ∧ x < W.heap.size := by
  obtain ⟨A, m, c, mb, h, rfl⟩ := h
  exact h.ge
theorem TbAt.cells {W : World} {B p : Nat} {A : Option Addr} {m c mb : Nat} {T : PT} (h : TbAt W B p A m c mb T) : W.cell? ⟨p, 0, none⟩ = some (.slice A m c) ∧ W.cell? ⟨p, 1, none⟩ = some (.int .i64 T.last) ∧ W.cell? ⟨p, 2, none⟩ = some (.map (some mb)) := by
  have q0 := h.blk.cell 0
  have q1 := h.blk.cell 1
  have q2 := h.blk.cell 2
  simp only [List.getElem?_toArray, List.getElem?_cons_succ, List.getElem?_cons_zero] at q0 q1 q2
  exact ⟨q0, q1, q2⟩
def PT.empty : PT := ⟨[], 0, fun _ _ => none, 0⟩
set_option maxHeartbeats 1000000 in
theorem new_any (w : World) : Calls Try.prog 7 #[] w fun e w' => e = .returned (.pointer (some ⟨w.heap.size + 1, 0, none⟩)) ∧ Tb w' w.heap.size (w.heap.size + 1) [w.heap.size + 1, w.heap.size] PT.empty ∧ Below w.heap.size w w' := by
  have hmm := @run_makeMap Try.prog
  go_enter Try.func7, Try.ntmps7
  go_wp2_with fail
  go_ret
  have hs : (w.alloc (.map #[] 0)).heap.size = w.heap.size + 1 := by simp
  refine ⟨by simp, ⟨none, 0, 0, w.heap.size, ⟨?_, OwnE.nil _ _, ?_, by omega, Nat.le_refl _, Nat.zero_le _, by simp [PT.empty]⟩, rfl⟩, ((Below.refl _ _).alloc (Nat.le_refl _) _).alloc (by simp) _⟩
  · have := Blk.new (w.alloc (.map #[] 0)) 54 #[.slice none 0 0, .int .i64 0, .map (some w.heap.size)]
    rwa [hs] at this
  · exact (MapIs.made w).keep (((Below.refl (w.heap.size + 1) (w.alloc (.map #[] 0))).alloc (by simp) _).block _ (by omega))
set_option maxHeartbeats 1000000 in
theorem user_any (B p : Nat) (S : List Nat) (T : PT) (a b : Int) (w : World) (h : Tb w B p S T) (ha : wf64 a) (hb : wf64 b) :
    Calls Try.prog 27 #[.pointer (some ⟨p, 0, none⟩), .agg #[.int .i64 a, .int .i64 b]] w fun e w' => e = .returned (.int .i64 ((T.who a b).getD (-1))) ∧ Below w.heap.size w w' := by
  obtain ⟨A, m, c, mb, hT, rfl⟩ := h
  obtain ⟨wA, hwA⟩ : ∃ wA, w.alloc (.cells #[.int .i64 a, .int .i64 b] 56) = wA := ⟨_, rfl⟩
  have bA : Blk wA w.heap.size 56 #[.int .i64 a, .int .i64 b] := by rw [← hwA]; exact Blk.new _ _ _
  have hbA : Below w.heap.size w wA := by rw [← hwA]; exact (Below.refl _ _).alloc (Nat.le_refl _) _
  obtain ⟨X, hX⟩ : ∃ X, w.heap.size = X := ⟨_, rfl⟩
  have H := Lib.hid (And.intro (hT.below hbA) (And.intro bA (And.intro hbA hX)))
  clear hT bA hbA
  go_enter Try.func27, Try.ntmps27
  go_wp2_with fail
  try rw [hwA]
  try rw [hX]
  clear hwA hX
  refine region_old (by kernel_rfl) (fun wd hHeld hSz => ?_)
  have HSz := Lib.hid hSz
  clear hSz
  refine takeL (i := 0) (v := ?_) rfl (by kernel_rfl) (by kernel_rfl) (by kernel_rfl) (fun _ _ _ h => h) (Or.inl ⟨by rfl, ?_⟩) hHeld ?_
  rotate_left
  focus (intro wq hSw; clear hSw; go_simp; try with_reducible rfl)
  try simp only [Act.put, List.setIfInBounds_toArray, List.set_cons_zero, List.set_cons_succ]
  refine takeL (i := 1) (v := ?_) rfl (by kernel_rfl) (by kernel_rfl) (by kernel_rfl) (fun _ _ _ h => h) (Or.inl ⟨by rfl, ?_⟩) hHeld ?_
  rotate_left
  focus (intro wq hSw; clear hSw; go_simp; try with_reducible rfl)
  try simp only [Act.put, List.setIfInBounds_toArray, List.set_cons_zero, List.set_cons_succ]
  refine takeL (i := 2) (v := ?_) rfl (by kernel_rfl) (by kernel_rfl) (by kernel_rfl) (fun _ _ _ h => h) (Or.inl ⟨by rfl, ?_⟩) hHeld ?_
  rotate_left
  focus (intro wq hSw; clear hSw; go_simp; try with_reducible rfl)
  try simp only [Act.put, List.setIfInBounds_toArray, List.set_cons_zero, List.set_cons_succ]
  refine takeL (i := 3) (v := ?_) rfl (by kernel_rfl) (by kernel_rfl) (by kernel_rfl) (fun _ _ _ h => h) (Or.inl ⟨by rfl, ?_⟩) hHeld ?_
  rotate_left
  focus (intro wq hSw; obtain ⟨f0, f1, f2⟩ := (H.out.1.below hSw).cells; clear hSw; go_simp; try with_reducible rfl)
  try simp only [Act.put, List.setIfInBounds_toArray, List.set_cons_zero, List.set_cons_succ]
  refine takeL (i := 4) (v := ?_) rfl (by kernel_rfl) (by kernel_rfl) (by kernel_rfl) (fun _ _ _ h => h) (Or.inl ⟨by rfl, ?_⟩) hHeld ?_
  rotate_left
  focus (intro wq hSw; have g0 := (H.out.2.1.below hSw).cell 0; have g1 := (H.out.2.1.below hSw).cell 1; rw [H.out.2.2.2] at g0 g1; simp only [List.getElem?_toArray, List.getElem?_cons_succ, List.getElem?_cons_zero] at g0 g1; clear hSw; go_simp; try with_reducible rfl)
  try simp only [Act.put, List.setIfInBounds_toArray, List.set_cons_zero, List.set_cons_succ]
  refine takeL (i := 5) (v := ?_) rfl (by kernel_rfl) (by kernel_rfl) (by kernel_rfl) (fun _ _ _ h => h) (Or.inl ⟨by rfl, ?_⟩) hHeld ?_
  rotate_left
  focus (intro wq hSw; have hRun := (H.out.1.below hSw).map.look a b ha hb; clear hSw; go_simp; try with_reducible rfl)
  try simp only [Act.put, List.setIfInBounds_toArray, List.set_cons_zero, List.set_cons_succ]
  refine takeL (i := 6) (v := ?_) rfl (by kernel_rfl) (by kernel_rfl) (by kernel_rfl) (fun _ _ _ h => h) (Or.inl ⟨by rfl, ?_⟩) hHeld ?_
  rotate_left
  focus (intro wq hSw; clear hSw; go_simp; try with_reducible rfl)
  try simp only [Act.put, List.setIfInBounds_toArray, List.set_cons_zero, List.set_cons_succ]
  refine takeL (i := 7) (v := ?_) rfl (by kernel_rfl) (by kernel_rfl) (by kernel_rfl) (fun _ _ _ h => h) (Or.inl ⟨by rfl, ?_⟩) hHeld ?_
  rotate_left
  focus (intro wq hSw; clear hSw; go_simp; try with_reducible rfl)
  try simp only [Act.put, List.setIfInBounds_toArray, List.set_cons_zero, List.set_cons_succ]
  refine takeL (i := 8) (v := ?_) rfl (by kernel_rfl) (by kernel_rfl) (by kernel_rfl) (fun _ _ _ h => h) (Or.inl ⟨by rfl, ?_⟩) hHeld ?_
  rotate_left
  focus (intro wq hSw; clear hSw; go_simp; try with_reducible rfl)
  try simp only [Act.put, List.setIfInBounds_toArray, List.set_cons_zero, List.set_cons_succ]
  refine takeL (i := 9) (v := ?_) rfl (by kernel_rfl) (by kernel_rfl) (by kernel_rfl) (fun _ _ _ h => h) (Or.inl ⟨by rfl, ?_⟩) hHeld ?_
  rotate_left
  focus (intro wq hSw; clear hSw; go_simp; try with_reducible rfl)
  try simp only [Act.put, List.setIfInBounds_toArray, List.set_cons_zero, List.set_cons_succ]
  refine takeL (i := 10) (v := ?_) rfl (by kernel_rfl) (by kernel_rfl) (by kernel_rfl) (fun _ _ _ h => h) (Or.inl ⟨by rfl, ?_⟩) hHeld ?_
  rotate_left
  focus (intro wq hSw; clear hSw; go_simp; try with_reducible rfl)
  try simp only [Act.put, List.setIfInBounds_toArray, List.set_cons_zero, List.set_cons_succ]
  refine wpAnyH_done (by kernel_rfl) ?_ _
  refine NoPanic.normal ?_
  have hH := Lib.hid (H.out.2.2.1.trans (Below.mono hHeld H.out.2.2.1.size))
  clear hHeld
  cases hf : T.who a b with
  | none =>
    simp only [hf, Option.isSome_none, Option.getD_none]
    simp only [Exit.then]
    go_wp2_with fail
    go_ret
    exact ⟨by rw [hf]; rfl, hH.out⟩
  | some u =>
    simp only [hf, Option.isSome_some, Option.getD_some]
    simp only [Exit.then]
    go_wp2_with fail
    go_ret
    exact ⟨by rw [hf]; rfl, hH.out⟩
theorem slots_any (s : Int) (w : World) : Calls Try.prog 26 #[.int .i64 s] w fun e w' => e = .returned (.bool (decide (0 ≤ s ∧ s < 4))) ∧ w = w' := by
  by_cases h1 : s < 0
  · have d1 : decide (0 ≤ s) = false := decide_eq_false (by omega)
    rw [decide_eq_false (by omega : ¬ (0 ≤ s ∧ s < 4))]
    go_enter Try.func26, Try.ntmps26
    go_wp2
    go_ret
    exact ⟨by first | rfl | simp, rfl⟩
  · have d1 : decide (0 ≤ s) = true := decide_eq_true (by omega)
    by_cases h2 : s < 4
    · have d2 : decide (s < 4) = true := decide_eq_true h2
      rw [decide_eq_true (by omega : 0 ≤ s ∧ s < 4)]
      go_enter Try.func26, Try.ntmps26
      go_wp2
      go_ret
      exact ⟨by first | rfl | simp, rfl⟩
    · have d2 : decide (s < 4) = false := decide_eq_false h2
      rw [decide_eq_false (by omega : ¬ (0 ≤ s ∧ s < 4))]
      go_enter Try.func26, Try.ntmps26
      go_wp2
      go_ret
      exact ⟨by first | rfl | simp, rfl⟩
set_option maxHeartbeats 1000000 in
theorem open1_any (k : Nat) (a b : Int) (x : PS) (w : World) (hk : Blk w k 56 #[.int .i64 a, .int .i64 b]) :
    Calls Try.prog 46 #[.agg #[.int .i64 x.h, .int .i64 x.c, .int .i64 x.s, .bool x.rw], .pointer (some ⟨k, 0, none⟩)] w fun e w' => e = .returned (.bool (decide (x.c = a ∧ x.s = b))) ∧ Below w.heap.size w w' := by
  obtain ⟨wA, hwA⟩ : ∃ wA, w.alloc (.cells #[.int .i64 x.h, .int .i64 x.c, .int .i64 x.s, .bool x.rw] 59) = wA := ⟨_, rfl⟩
  have bA : Blk wA w.heap.size 59 #[.int .i64 x.h, .int .i64 x.c, .int .i64 x.s, .bool x.rw] := by rw [← hwA]; exact Blk.new _ _ _
  have hbA : Below w.heap.size w wA := by rw [← hwA]; exact (Below.refl _ _).alloc (Nat.le_refl _) _
  have g0 := bA.cell 0
  have g1 := bA.cell 1
  have g2 := bA.cell 2
  have g3 := bA.cell 3
  have qk0 := (hk.below hbA).cell 0
  have qk1 := (hk.below hbA).cell 1
  simp only [List.getElem?_toArray, List.getElem?_cons_succ, List.getElem?_cons_zero] at g0 g1 g2 g3 qk0 qk1
  have HB := Lib.hid hbA
  clear hbA bA hk
  go_enter Try.func46, Try.ntmps46
  go_wp2_with fail
  all_goals (try go_wp2_with fail)
  all_goals go_ret
  all_goals exact ⟨by first | rfl | (simp; done) | simp [*], HB.out⟩
set_option maxHeartbeats 1000000 in
theorem close1_any (k : Nat) (a : Int) (x : PS) (w : World) (hk : Blk w k 3 #[.int .i64 a]) :
    Calls Try.prog 31 #[.agg #[.int .i64 x.h, .int .i64 x.c, .int .i64 x.s, .bool x.rw], .pointer (some ⟨k, 0, none⟩)] w fun e w' => e = .returned (.bool (decide (x.h = a))) ∧ Below w.heap.size w w' := by
  obtain ⟨wA, hwA⟩ : ∃ wA, w.alloc (.cells #[.int .i64 x.h, .int .i64 x.c, .int .i64 x.s, .bool x.rw] 59) = wA := ⟨_, rfl⟩
  have bA : Blk wA w.heap.size 59 #[.int .i64 x.h, .int .i64 x.c, .int .i64 x.s, .bool x.rw] := by rw [← hwA]; exact Blk.new _ _ _
  have hbA : Below w.heap.size w wA := by rw [← hwA]; exact (Below.refl _ _).alloc (Nat.le_refl _) _
  have g0 := bA.cell 0
  have g1 := bA.cell 1
  have g2 := bA.cell 2
  have g3 := bA.cell 3
  have qk0 := (hk.below hbA).cell 0
  simp only [List.getElem?_toArray, List.getElem?_cons_succ, List.getElem?_cons_zero] at g0 g1 g2 g3 qk0
  have HB := Lib.hid hbA
  clear hbA bA hk
  go_enter Try.func31, Try.ntmps31
  go_wp2_with fail
  all_goals (try go_wp2_with fail)
  all_goals go_ret
  all_goals exact ⟨by first | rfl | (simp; done) | simp [*], HB.out⟩
set_option maxHeartbeats 1000000 in
theorem closeAll1_any (k j : Nat) (a b : Int) (x : PS) (w : World) (hk : Blk w k 3 #[.int .i64 a]) (hj : Blk w j 3 #[.int .i64 b]) :
    Calls Try.prog 35 #[.agg #[.int .i64 x.h, .int .i64 x.c, .int .i64 x.s, .bool x.rw], .pointer (some ⟨k, 0, none⟩), .pointer (some ⟨j, 0, none⟩)] w fun e w' => e = .returned (.bool (decide (x.c = a ∧ x.s = b))) ∧ Below w.heap.size w w' := by
  obtain ⟨wA, hwA⟩ : ∃ wA, w.alloc (.cells #[.int .i64 x.h, .int .i64 x.c, .int .i64 x.s, .bool x.rw] 59) = wA := ⟨_, rfl⟩
  have bA : Blk wA w.heap.size 59 #[.int .i64 x.h, .int .i64 x.c, .int .i64 x.s, .bool x.rw] := by rw [← hwA]; exact Blk.new _ _ _
  have hbA : Below w.heap.size w wA := by rw [← hwA]; exact (Below.refl _ _).alloc (Nat.le_refl _) _
  have g0 := bA.cell 0
  have g1 := bA.cell 1
  have g2 := bA.cell 2
  have g3 := bA.cell 3
  have qk0 := (hk.below hbA).cell 0
  have qj0 := (hj.below hbA).cell 0
  simp only [List.getElem?_toArray, List.getElem?_cons_succ, List.getElem?_cons_zero] at g0 g1 g2 g3 qk0 qj0
  have HB := Lib.hid hbA
  clear hbA bA hk hj
  go_enter Try.func35, Try.ntmps35
  go_wp2_with fail
  all_goals (try go_wp2_with fail)
  all_goals go_ret
  all_goals exact ⟨by first | rfl | (simp; done) | simp [*], HB.out⟩
set_option maxHeartbeats 1000000 in
theorem drop1_any (k : Nat) (a : Int) (x : PS) (w : World) (hk : Blk w k 3 #[.int .i64 a]) :
    Calls Try.prog 36 #[.agg #[.int .i64 x.h, .int .i64 x.c, .int .i64 x.s, .bool x.rw], .pointer (some ⟨k, 0, none⟩)] w fun e w' => e = .returned (.bool (decide (x.c = a))) ∧ Below w.heap.size w w' := by
  obtain ⟨wA, hwA⟩ : ∃ wA, w.alloc (.cells #[.int .i64 x.h, .int .i64 x.c, .int .i64 x.s, .bool x.rw] 59) = wA := ⟨_, rfl⟩
  have bA : Blk wA w.heap.size 59 #[.int .i64 x.h, .int .i64 x.c, .int .i64 x.s, .bool x.rw] := by rw [← hwA]; exact Blk.new _ _ _
  have hbA : Below w.heap.size w wA := by rw [← hwA]; exact (Below.refl _ _).alloc (Nat.le_refl _) _
  have g0 := bA.cell 0
  have g1 := bA.cell 1
  have g2 := bA.cell 2
  have g3 := bA.cell 3
  have qk0 := (hk.below hbA).cell 0
  simp only [List.getElem?_toArray, List.getElem?_cons_succ, List.getElem?_cons_zero] at g0 g1 g2 g3 qk0
  have HB := Lib.hid hbA
  clear hbA bA hk
  go_enter Try.func36, Try.ntmps36
  go_wp2_with fail
  all_goals (try go_wp2_with fail)
  all_goals go_ret
  all_goals exact ⟨by first | rfl | (simp; done) | simp [*], HB.out⟩
set_option maxHeartbeats 1000000 in
theorem used1_any (k : Nat) (a : Int) (x : PS) (w : World) (hk : Blk w k 3 #[.int .i64 a]) :
    Calls Try.prog 42 #[.agg #[.int .i64 x.h, .int .i64 x.c, .int .i64 x.s, .bool x.rw], .pointer (some ⟨k, 0, none⟩)] w fun e w' => e = .returned (.bool (decide (x.s = a))) ∧ Below w.heap.size w w' := by
  obtain ⟨wA, hwA⟩ : ∃ wA, w.alloc (.cells #[.int .i64 x.h, .int .i64 x.c, .int .i64 x.s, .bool x.rw] 59) = wA := ⟨_, rfl⟩
  have bA : Blk wA w.heap.size 59 #[.int .i64 x.h, .int .i64 x.c, .int .i64 x.s, .bool x.rw] := by rw [← hwA]; exact Blk.new _ _ _
  have hbA : Below w.heap.size w wA := by rw [← hwA]; exact (Below.refl _ _).alloc (Nat.le_refl _) _
  have g0 := bA.cell 0
  have g1 := bA.cell 1
  have g2 := bA.cell 2
  have g3 := bA.cell 3
  have qk0 := (hk.below hbA).cell 0
  simp only [List.getElem?_toArray, List.getElem?_cons_succ, List.getElem?_cons_zero] at g0 g1 g2 g3 qk0
  have HB := Lib.hid hbA
  clear hbA bA hk
  go_enter Try.func42, Try.ntmps42
  go_wp2_with fail
  all_goals (try go_wp2_with fail)
  all_goals go_ret
  all_goals exact ⟨by first | rfl | (simp; done) | simp [*], HB.out⟩
set_option maxHeartbeats 1000000 in
theorem mayLogin1_any (k : Nat) (a b : Int) (x : PS) (w : World) (hk : Blk w k 56 #[.int .i64 a, .int .i64 b]) :
    Calls Try.prog 43 #[.agg #[.int .i64 x.h, .int .i64 x.c, .int .i64 x.s, .bool x.rw], .pointer (some ⟨k, 0, none⟩)] w fun e w' => e = .returned (.bool (decide (x.c = a ∧ x.s = b) && !x.rw)) ∧ Below w.heap.size w w' := by
  obtain ⟨wA, hwA⟩ : ∃ wA, w.alloc (.cells #[.int .i64 x.h, .int .i64 x.c, .int .i64 x.s, .bool x.rw] 59) = wA := ⟨_, rfl⟩
  have bA : Blk wA w.heap.size 59 #[.int .i64 x.h, .int .i64 x.c, .int .i64 x.s, .bool x.rw] := by rw [← hwA]; exact Blk.new _ _ _
  have hbA : Below w.heap.size w wA := by rw [← hwA]; exact (Below.refl _ _).alloc (Nat.le_refl _) _
  have g0 := bA.cell 0
  have g1 := bA.cell 1
  have g2 := bA.cell 2
  have g3 := bA.cell 3
  have qk0 := (hk.below hbA).cell 0
  have qk1 := (hk.below hbA).cell 1
  simp only [List.getElem?_toArray, List.getElem?_cons_succ, List.getElem?_cons_zero] at g0 g1 g2 g3 qk0 qk1
  have HB := Lib.hid hbA
  clear hbA bA hk
  go_enter Try.func43, Try.ntmps43
  go_wp2_with fail
  all_goals (try go_wp2_with fail)
  all_goals go_ret
  all_goals exact ⟨by first | rfl | (simp; done) | simp [*], HB.out⟩
end Go.Proofs.Ytnpncbpbeikcaaa
