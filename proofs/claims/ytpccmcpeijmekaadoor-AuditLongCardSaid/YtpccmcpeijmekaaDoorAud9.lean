/-
  Contracts of audit.right and audit.Check.
-/
import Derived.Test.YtpccmcpeijmekaaDoorAud8
import Derived.Test.YtpccmcpeijmekaaDoorRange2
import Derived.WalkMore
namespace Go.Proofs.YtpccmcpeijmekaaDoor
open Go.RowKit
attribute [local go_sem] Oper.semAt_some

theorem field1 (a b c d e : Value) (w : World) : (Instr.field 29 (.agg #[a, b, c, d, e]) 1).run Tryd.prog w = .ok b w := by kernel_rfl
theorem right_yes (A : Option Addr) (c : Nat) (A' : Option Addr) (n' c' : Nat) (l : List UInt8) (w : World) (hr : Rd w A 52 c l) (hr' : Rd w A' n' c' l) (ht : (l.getD 4 0).toNat < 128) :
    Calls Tryd.prog 19 #[.slice A 52 c, .slice A' n' c'] w fun e w' => e = .returned (.bool true) ∧ Below w.heap.size w w' := by
  have s1 := hr.str
  have s2 := hr'.str
  have hE : Calls Tryd.prog 30 #[.slice A 52 c, .slice A' n' c'] w fun e w' => e = .returned (.bool true) ∧ w = w' := by
    go_enter Tryd.func30, Tryd.ntmps30
    go_wp2
    go_ret
    exact ⟨by first | rfl | simp, rfl⟩
  have HE := Lib.hid (And.intro hE (read_any A 52 c l w hr (by omega) ht))
  clear hE hr hr' s1 s2 ht
  have hf1 := field1
  go_enter Tryd.func19, Tryd.ntmps19
  go_wp2_with (first
    | (go_at_call 30; refine HE.out.1.mono ?_; rintro e w' ⟨rfl, rfl⟩)
    | (go_at_call 21; refine HE.out.2.mono ?_; rintro e w1 ⟨rfl, hb⟩; have HB := Lib.hid hb; clear hb; unfold rdV entV))
  go_ret
  exact ⟨by first | rfl | simp, HB.out⟩
theorem right_no (A : Option Addr) (c : Nat) (A' : Option Addr) (n' c' : Nat) (l l' : List UInt8) (w : World) (hr : Rd w A 52 c l) (hr' : Rd w A' n' c' l') (hne : l ≠ l') :
    Calls Tryd.prog 19 #[.slice A 52 c, .slice A' n' c'] w fun e w' => e = .returned (.bool false) ∧ w = w' := by
  have s1 := hr.str
  have s2 := hr'.str
  have hn : (⟨l.toArray⟩ : ByteArray) ≠ ⟨l'.toArray⟩ := fun e => hne (by simpa using congrArg (fun b => b.data.toList) e)
  have hE : Calls Tryd.prog 30 #[.slice A 52 c, .slice A' n' c'] w fun e w' => e = .returned (.bool false) ∧ w = w' := by
    go_enter Tryd.func30, Tryd.ntmps30
    go_wp2
    go_ret
    exact ⟨by first | rfl | simp [hn, hne], rfl⟩
  have HE := Lib.hid hE
  clear hE hr hr' s1 s2 hn hne
  go_enter Tryd.func19, Tryd.ntmps19
  go_wp2_with (first
    | (go_at_call 30; refine HE.out.mono ?_; rintro e w' ⟨rfl, rfl⟩))
  go_ret
  exact ⟨rfl, rfl⟩
/-- The first k lines are right, and the next one is none or wrong. -/
def RightTo (log : List UInt8) (q k : Nat) : Prop := k ≤ q ∧ (∀ i, i < k → lnAt log i = wantAt log i) ∧ (k < q → lnAt log k ≠ wantAt log k)
/-- What stands between two rounds of Check. -/
structure CkI (w : World) (k : Nat) (W : World) : Prop where
  cnt : Blk W w.heap.size 3 #[.int .i64 (k : Int)]
  old : Old w W
theorem CkI.turn {w W W' : World} {k : Nat} {S : List Nat} (h : CkI w k W) (ht : Turn S W W') (hS : ∀ t ∈ S, w.heap.size < t) : CkI w k W' :=
  ⟨h.cnt.turn ht (fun hm => by have := hS _ hm; omega), h.old.turned ht (fun t hm => by have := hS _ hm; omega)⟩
/-- What a call of Check gives. -/
def CkRes (w : World) (q k : Nat) (e : Ending) (w' : World) : Prop := e = .returned (.tuple #[.int .i64 (k : Int), .bool (decide (k = q))]) ∧ Below w.heap.size w w'
set_option maxHeartbeats 2000000 in
theorem check_at (A : Option Addr) (m c q k : Nat) (log : List UInt8) (w : World) (hr : Rd w A m c log) (hg : GoodLog log q) (hq : q ≤ 1000) (hk : RightTo log q k) (hK : KAt w) :
    Calls Tryd.prog 9 #[.slice A m c] w (CkRes w q k) := by
  have hml := hr.1
  have hmq : m = q * 52 := by rw [hml]; exact hg.1
  have HH := Lib.hid (And.intro hr (And.intro hg (And.intro hq (And.intro hk (And.intro hK hmq)))))
  have hmi : (m : Int) ≤ 52000 := by omega
  have hqi : (q : Int) ≤ 1000 := by omega
  have hki : (k : Int) ≤ 1000 := by have := hk.1; omega
  clear hr hg hq hk hK hml hmq
  refine calls_of_marks Tryd.func9 rfl ?_
  simp only [Tryd.ntmps9, List.size_toArray, List.length_cons, List.length_nil, Nat.reduceAdd, Nat.reduceSub, Array.replicate_succ, Array.replicate_zero, List.push_toArray, List.append_toArray, List.nil_append, List.cons_append]
  go_wp2_with fail
  go_step3
  go_wp2_with fail
  go_step3
  go_wp2_with (go_at_call 18; refine (lines_any _ _ _ _).mono ?_; rintro e w' ⟨rfl, rfl⟩)
  obtain ⟨W0, hW0⟩ : ∃ W0, (w.alloc (.cells #[.int .i64 0] 3)).alloc (.cells #[.slice A m c] 24) = W0 := ⟨_, rfl⟩
  have hI0 : CkI w 0 W0 := by
    rw [← hW0]
    exact ⟨(Blk.new w 3 #[.int .i64 0]).alloc _, Old.alloc (Old.alloc (Old.refl _) _) _⟩
  have hB0 : Blk W0 (w.heap.size + 1) 24 #[.slice A m c] := by
    have := Blk.new (w.alloc (.cells #[.int .i64 0] 3)) 24 #[.slice A m c]
    rw [hW0] at this; simpa using this
  have hz0 : W0.heap.size = w.heap.size + 2 := by rw [← hW0]; simp
  rw [hW0]
  clear hW0
  have H0 := Lib.hid (And.intro hI0 (And.intro hB0 hz0))
  clear hB0 hz0
  -- the way out: the tests behind the loop
  have hend : ∀ (j : Nat) (W : World) (tl : Array Value), True := fun _ _ _ => trivial
  clear hend
  refine wp_range2 5 6 (gf := 29) (lb := #[.pointer (some ⟨w.heap.size + 1, 0, none⟩)]) (T := []) rfl (fun _ _ => by kernel_rfl)
    (lines_iter (w.heap.size + 1) A m c q log HH.out.2.1 HH.out.2.2.1) (fun k args W h => by obtain ⟨A1, c1, A2, n2, c2, rfl, _⟩ := h; rfl) (by simp)
    (fun j W => j ≤ k ∧ CkI w j W) (fun cc j W => cc = .exit 0 ∧ j = k ∧ k < q ∧ CkI w j W)
    ?hI ?hIx ?hM ?hA ⟨by omega, hI0⟩ ?hM0 ?hM1 ?hassign ?hbody ?hdone ?hstop
  case hI =>
    rintro j W1 W2 S ⟨hj, h⟩ ht hS
    refine ⟨hj, h.turn ht (fun t hm => ?_)⟩
    rcases hS t hm with h | ⟨h, _⟩
    · cases h
    · have := H0.out.2.2; omega
  case hIx =>
    rintro cc j W1 W2 S ⟨hc, hj, hq, h⟩ ht hS
    refine ⟨hc, hj, hq, h.turn ht (fun t hm => ?_)⟩
    rcases hS t hm with h | ⟨h, _⟩
    · cases h
    · have := H0.out.2.2; omega
  case hM =>
    rintro j W1 W2 ⟨h1, h2, h3⟩ ⟨r, hr⟩ ht
    have hz := H0.out.2.2
    have hkl := HH.out.2.2.2.2.1.1
    exact ⟨h1.turn ht (by simp; try omega), h2.loopTurn hr ht, h3.turn ht (by simp; try omega)⟩
  case hA =>
    rintro j args W1 W2 ⟨A1, c1, A2, n2, c2, rfl, h1, h2⟩ ⟨r, hr⟩ ht
    exact ⟨A1, c1, A2, n2, c2, rfl, h1.loopTurn hr ht, h2.loopTurn hr ht⟩
  case hM0 => exact ⟨H0.out.2.1, HH.out.1.below H0.out.1.old, HH.out.2.2.2.2.1.below H0.out.1.old⟩
  case hM1 =>
    intro W ht
    have h1 : Old W0 W := ht.below
    exact ⟨H0.out.2.1.below h1, (HH.out.1.below H0.out.1.old).below h1, (HH.out.2.2.2.2.1.below H0.out.1.old).below h1⟩
  case hassign =>
    rintro l' args j W K ⟨A1, c1, A2, n2, c2, rfl, _⟩ hK
    simp at hK
    gi_wp2
    exact hK
  case hbody =>
    rintro l' j args W hjq hlt ⟨hjk, hI⟩ hMi ⟨A1, c1, A2, n2, c2, rfl, hr1, hr2⟩
    have HX := Lib.hid (And.intro hI (And.intro hMi (And.intro hr1 (And.intro hr2 (And.intro hjq (And.intro hjk hlt))))))
    have hji : (j : Int) ≤ 1000 := by have := HH.out.2.2.1; omega
    clear hI hMi hr1 hr2
    rcases Nat.lt_or_ge j k with hjk2 | hjk2
    · have heq := HH.out.2.2.2.1.2.1 j hjk2
      have hRt : Calls Tryd.prog 19 #[.slice A1 52 c1, .slice A2 n2 c2] W fun e w' => e = .returned (.bool true) ∧ Below W.heap.size W w' := right_yes A1 c1 A2 n2 c2 (lnAt log j) W HX.out.2.2.1 (by rw [heq]; exact HX.out.2.2.2.1) (HH.out.2.1.2 j hjq)
      have HRt := Lib.hid hRt
      clear hRt heq hjk hlt hjq
      gi_wp2_with (refine ⟨trivial, ?_⟩; gi_at_call 19; refine (callsIn_wide.2 HRt.out).mono ?_; rintro e w1 ⟨rfl, hb⟩; have hc1 := (HX.out.1.cnt.below hb).cell 0; have hf1 := (HX.out.1.cnt.below hb).frozen 0; simp only [List.getElem?_toArray, List.getElem?_cons_zero] at hc1; have HB := Lib.hid hb; clear hb)
      have hT := (Turn.refl [w.heap.size] w1).setCell (p := ⟨w.heap.size, 0, none⟩) (.inl (by simp)) (.int .i64 ((j : Int) + 1))
      have hT2 := (Turn.of_below [w.heap.size] HB.out).trans hT (fun x hx => .inl hx)
      have hz := H0.out.2.2
      refine ⟨⟨[w.heap.size], hT2, by simp; omega, by simp; omega⟩, ⟨by omega, ?_, HX.out.1.old.turned hT2 (by simp)⟩, ?_⟩
      · have := (HX.out.1.cnt.below HB.out).set_ 0 (.int .i64 ((j : Int) + 1))
        exact this
      · have hM := HX.out.2.1
        have hkl := HH.out.2.2.2.2.1.1
        refine ⟨hM.1.turn hT2 (by simp), ?_, hM.2.2.turn hT2 (by simp; omega)⟩
        exact hM.2.1.turn hT2 (fun ad had hm => by have := HH.out.1.lt ad had; simp at hm; omega)
    · obtain rfl : j = k := by omega
      have hne := HH.out.2.2.2.1.2.2 hjq
      have hRt : Calls Tryd.prog 19 #[.slice A1 52 c1, .slice A2 n2 c2] W fun e w' => e = .returned (.bool false) ∧ W = w' := right_no A1 c1 A2 n2 c2 (lnAt log j) (wantAt log j) W HX.out.2.2.1 HX.out.2.2.2.1 hne
      have HRt := Lib.hid hRt
      clear hRt hne hjk hlt hjk2
      gi_wp2_with (refine ⟨trivial, ?_⟩; gi_at_call 19; refine (callsIn_wide.2 HRt.out).mono ?_; rintro e w1 ⟨rfl, rfl⟩)
      exact ⟨⟨[], Turn.refl _ _, by simp, by simp⟩, rfl, rfl, HX.out.2.2.2.2.1, HX.out.1⟩
  case hdone =>
    rintro W hlt ⟨hqk, hI⟩ hKd
    obtain rfl : k = q := by have := HH.out.2.2.2.1.1; omega
    have hkq : True := trivial
    have HT := Lib.hid (And.intro hI (And.intro hKd hlt))
    clear hI hKd hlt hqk
    have hw5 : IntKind.i64.wrap ((k : Int) * 52) = (k : Int) * 52 := wrap_i64 _ (by omega) (by omega)
    have htq : (((k : Int) * 52 == (m : Int)) = true) := by have := HH.out.2.2.2.2.2; simp; omega
    have HKQ := Lib.hid hkq
    clear hkq
    go_wp2_with fail
    refine region_old (by kernel_rfl) (fun wd hHeld hSz => ?_)
    have HSz := Lib.hid hSz
    clear hSz
    refine takeL (i := 0) (v := ?_) rfl (by kernel_rfl) (by kernel_rfl) (by kernel_rfl) (fun _ _ _ h => h) (Or.inl ⟨by rfl, ?_⟩) hHeld ?_
    rotate_left
    focus (intro wq hSw; have cq := (HT.out.1.cnt.below hSw).cell 0; simp only [List.getElem?_toArray, List.getElem?_cons_zero] at cq; clear hSw; go_simp; try with_reducible rfl)
    try simp only [Act.put, List.setIfInBounds_toArray, List.set_cons_zero, List.set_cons_succ]
    refine takeL (i := 1) (v := ?_) rfl (by kernel_rfl) (by kernel_rfl) (by kernel_rfl) (fun _ _ _ h => h) (Or.inl ⟨by rfl, ?_⟩) hHeld ?_
    rotate_left
    focus (intro wq hSw; have cq := (HT.out.1.cnt.below hSw).cell 0; simp only [List.getElem?_toArray, List.getElem?_cons_zero] at cq; clear hSw; go_simp; try with_reducible rfl)
    try simp only [Act.put, List.setIfInBounds_toArray, List.set_cons_zero, List.set_cons_succ]
    refine takeL (i := 2) (v := ?_) rfl (by kernel_rfl) (by kernel_rfl) (by kernel_rfl) (fun _ _ _ h => h) (Or.inl ⟨by rfl, ?_⟩) hHeld ?_
    rotate_left
    focus (intro wq hSw; clear hSw; go_simp; try with_reducible rfl)
    try simp only [Act.put, List.setIfInBounds_toArray, List.set_cons_zero, List.set_cons_succ]
    refine takeL (i := 3) (v := ?_) rfl (by kernel_rfl) (by kernel_rfl) (by kernel_rfl) (fun _ _ _ h => h) (Or.inl ⟨by rfl, ?_⟩) hHeld ?_
    rotate_left
    focus (intro wq hSw; clear hSw; go_simp; try with_reducible rfl)
    try simp only [Act.put, List.setIfInBounds_toArray, List.set_cons_zero, List.set_cons_succ]
    refine takeL (i := 4) (v := ?_) rfl (by kernel_rfl) (by kernel_rfl) (by kernel_rfl) (fun _ _ _ h => h) (Or.inl ⟨by rfl, ?_⟩) hHeld ?_
    rotate_left
    focus (intro wq hSw; clear hSw; go_simp; try with_reducible rfl)
    try simp only [Act.put, List.setIfInBounds_toArray, List.set_cons_zero, List.set_cons_succ]
    refine takeL (i := 5) (v := ?_) rfl (by kernel_rfl) (by kernel_rfl) (by kernel_rfl) (fun _ _ _ h => h) (Or.inl ⟨by rfl, ?_⟩) hHeld ?_
    rotate_left
    focus (intro wq hSw; clear hSw; go_simp; try with_reducible rfl)
    try simp only [Act.put, List.setIfInBounds_toArray, List.set_cons_zero, List.set_cons_succ]
    refine takeL (i := 6) (v := ?_) rfl (by kernel_rfl) (by kernel_rfl) (by kernel_rfl) (fun _ _ _ h => h) (Or.inl ⟨by rfl, ?_⟩) hHeld ?_
    rotate_left
    focus (intro wq hSw; clear hSw; go_simp; try with_reducible rfl)
    try simp only [Act.put, List.setIfInBounds_toArray, List.set_cons_zero, List.set_cons_succ]
    refine takeL (i := 7) (v := ?_) rfl (by kernel_rfl) (by kernel_rfl) (by kernel_rfl) (fun _ _ _ h => h) (Or.inl ⟨by rfl, ?_⟩) hHeld ?_
    rotate_left
    focus (intro wq hSw; clear hSw; go_simp; try with_reducible rfl)
    try simp only [Act.put, List.setIfInBounds_toArray, List.set_cons_zero, List.set_cons_succ]
    refine wpAnyH_done (by kernel_rfl) ?_ _
    refine NoPanic.normal ?_
    simp only [Exit.then]
    have hO5 := Lib.hid hHeld
    clear hHeld
    go_wp2_with fail
    rw [Exit.noGoto_ret]
    have hlW := HT.out.2.2
    have hz := H0.out.2.2
    refine ret_mark (v := .tuple #[.int .i64 (k : Int), .bool true]) rfl ((hO5.out.block _ (by omega)).trans HT.out.2.1) (fun W' => by simp [results, Tryd.results9, go_sem]) ⟨by simp, ?_⟩
    exact (HT.out.1.old.trans hO5.out).turned ((Turn.refl [W0.heap.size] _).putObj (.inl (by simp)) _) (by simp; omega)
  case hstop =>
    rintro cc j W hlt hjq ⟨rfl, rfl, hkq, hI⟩ hKd
    have HT := Lib.hid (And.intro hI (And.intro hKd hlt))
    clear hI hKd hlt
    have hw5 : IntKind.i64.wrap ((j : Int) * 52) = (j : Int) * 52 := wrap_i64 _ (by omega) (by omega)
    have htq : (((j : Int) * 52 == (m : Int)) = false) := by have := HH.out.2.2.2.2.2; simp; omega
    have HKQ := Lib.hid hkq
    clear hkq
    go_wp2_with fail
    refine region_old (by kernel_rfl) (fun wd hHeld hSz => ?_)
    have HSz := Lib.hid hSz
    clear hSz
    refine takeL (i := 0) (v := ?_) rfl (by kernel_rfl) (by kernel_rfl) (by kernel_rfl) (fun _ _ _ h => h) (Or.inl ⟨by rfl, ?_⟩) hHeld ?_
    rotate_left
    focus (intro wq hSw; have cq := (HT.out.1.cnt.below hSw).cell 0; simp only [List.getElem?_toArray, List.getElem?_cons_zero] at cq; clear hSw; go_simp; try with_reducible rfl)
    try simp only [Act.put, List.setIfInBounds_toArray, List.set_cons_zero, List.set_cons_succ]
    refine takeL (i := 1) (v := ?_) rfl (by kernel_rfl) (by kernel_rfl) (by kernel_rfl) (fun _ _ _ h => h) (Or.inl ⟨by rfl, ?_⟩) hHeld ?_
    rotate_left
    focus (intro wq hSw; have cq := (HT.out.1.cnt.below hSw).cell 0; simp only [List.getElem?_toArray, List.getElem?_cons_zero] at cq; clear hSw; go_simp; try with_reducible rfl)
    try simp only [Act.put, List.setIfInBounds_toArray, List.set_cons_zero, List.set_cons_succ]
    refine takeL (i := 2) (v := ?_) rfl (by kernel_rfl) (by kernel_rfl) (by kernel_rfl) (fun _ _ _ h => h) (Or.inl ⟨by rfl, ?_⟩) hHeld ?_
    rotate_left
    focus (intro wq hSw; clear hSw; go_simp; try with_reducible rfl)
    try simp only [Act.put, List.setIfInBounds_toArray, List.set_cons_zero, List.set_cons_succ]
    refine takeL (i := 3) (v := ?_) rfl (by kernel_rfl) (by kernel_rfl) (by kernel_rfl) (fun _ _ _ h => h) (Or.inl ⟨by rfl, ?_⟩) hHeld ?_
    rotate_left
    focus (intro wq hSw; clear hSw; go_simp; try with_reducible rfl)
    try simp only [Act.put, List.setIfInBounds_toArray, List.set_cons_zero, List.set_cons_succ]
    refine takeL (i := 4) (v := ?_) rfl (by kernel_rfl) (by kernel_rfl) (by kernel_rfl) (fun _ _ _ h => h) (Or.inl ⟨by rfl, ?_⟩) hHeld ?_
    rotate_left
    focus (intro wq hSw; clear hSw; go_simp; try with_reducible rfl)
    try simp only [Act.put, List.setIfInBounds_toArray, List.set_cons_zero, List.set_cons_succ]
    refine takeL (i := 5) (v := ?_) rfl (by kernel_rfl) (by kernel_rfl) (by kernel_rfl) (fun _ _ _ h => h) (Or.inl ⟨by rfl, ?_⟩) hHeld ?_
    rotate_left
    focus (intro wq hSw; clear hSw; go_simp; try with_reducible rfl)
    try simp only [Act.put, List.setIfInBounds_toArray, List.set_cons_zero, List.set_cons_succ]
    refine takeL (i := 6) (v := ?_) rfl (by kernel_rfl) (by kernel_rfl) (by kernel_rfl) (fun _ _ _ h => h) (Or.inl ⟨by rfl, ?_⟩) hHeld ?_
    rotate_left
    focus (intro wq hSw; clear hSw; go_simp; try with_reducible rfl)
    try simp only [Act.put, List.setIfInBounds_toArray, List.set_cons_zero, List.set_cons_succ]
    refine takeL (i := 7) (v := ?_) rfl (by kernel_rfl) (by kernel_rfl) (by kernel_rfl) (fun _ _ _ h => h) (Or.inl ⟨by rfl, ?_⟩) hHeld ?_
    rotate_left
    focus (intro wq hSw; clear hSw; go_simp; try with_reducible rfl)
    try simp only [Act.put, List.setIfInBounds_toArray, List.set_cons_zero, List.set_cons_succ]
    refine wpAnyH_done (by kernel_rfl) ?_ _
    refine NoPanic.normal ?_
    simp only [Exit.then]
    have hO5 := Lib.hid hHeld
    clear hHeld
    go_wp2_with fail
    rw [Exit.noGoto_ret]
    have hlW := HT.out.2.2
    have hz := H0.out.2.2
    refine ret_mark (v := .tuple #[.int .i64 (j : Int), .bool false]) rfl ((hO5.out.block _ (by omega)).trans HT.out.2.1) (fun W' => by simp [results, Tryd.results9, go_sem]) ⟨by rw [decide_eq_false (by have := HKQ.out; omega)], ?_⟩
    exact (HT.out.1.old.trans hO5.out).turned ((Turn.refl [W0.heap.size] _).putObj (.inl (by simp)) _) (by simp; omega)
end Go.Proofs.YtpccmcpeijmekaaDoor
