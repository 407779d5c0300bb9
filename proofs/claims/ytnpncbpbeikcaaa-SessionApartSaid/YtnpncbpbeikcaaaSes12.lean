/-
  The law SessionApart, walked.
-/
import Derived.Test.YtnpncbpbeikcaaaSes11
namespace Go.Proofs.Ytnpncbpbeikcaaa
open Go.RowKit Go.Maps

def aT1 : PT := ⟨[⟨1, 77, 1, true⟩], 1, fun _ _ => none, 0⟩
def aT2 : PT := ⟨[⟨1, 77, 1, true⟩], 1, putW (fun _ _ => none) 77 1 1, 1⟩
theorem af1 : PT.empty.openW 77 1 true = (1, 0, aT1) := by rfl
theorem af2 : aT1.mayW 77 1 1 = 0 := by decide
theorem af2' : aT1.loginW 77 1 1 = aT2 := by unfold PT.loginW; rw [if_pos af2]; rfl
theorem af3 : Apart aT2 0 := ⟨⟨[], rfl, by simp⟩, by rfl, ⟨by decide, by decide⟩, by decide⟩
/-- Behind an operation: the two states. -/
structure ApI (B p : Nat) (S : List Nat) (wA : World) (k X : Nat) (conn : Int) (cs : Array Value) (w2 : World) (S' : List Nat) (T' : PT) : Prop where
  tb : Tb w2 B p S' T'
  turn : Turn S wA w2
  ap : Apart T' k
  box : Blk w2 X 32 cs
theorem ApI.of {B p : Nat} {S : List Nat} {wA : World} {k X : Nat} {conn : Int} {cs : Array Value} {w2 : World} {S' : List Nat} {T' : PT} (h1 : Tb w2 B p S' T') (h2 : Turn S wA w2) (h3 : Apart T' k) (hb : Blk wA X 32 cs) (hX : X ∉ S) : ApI B p S wA k X conn cs w2 S' T' := ⟨h1, h2, h3, hb.turn h2 hX⟩
set_option maxRecDepth 100000 in
set_option maxHeartbeats 8000000 in
theorem sessionApart_any (A : Option Addr) (m c : Nat) (l : List OpP) (w : World) (hm : m ≤ maxLen) (hops : RdC Try.eO w A m l) (hwf : ∀ x ∈ l, x.wf) : Calls Try.prog 4 #[.slice A m c] w fun e w' => e = .returned (.bool true) ∧ Below w.heap.size w w' := by
  have HO := Lib.hid (And.intro hops hwf)
  have hml := hops.1
  have hm63 : (m : Int) ≤ 9223372036854775807 := by unfold maxLen at hm; omega
  clear hops hwf
  go_enter Try.func4, Try.ntmps4
  go_wp2_with fail
  refine (begun_any w).mono ?_
  rintro e w0 ⟨rfl, hb0⟩
  have H0 := Lib.hid hb0
  clear hb0
  go_wp2_with fail
  obtain ⟨X, hX⟩ : ∃ X, w0.heap.size = X := ⟨_, rfl⟩
  have HX := Lib.hid hX
  have hn := new_any w0
  rw [hX] at hn
  refine hn.mono ?_
  rintro e w1 ⟨rfl, hT1, hb1⟩
  have hwX : w.heap.size ≤ X := by rw [← hX]; exact H0.out.size
  have H1 := Lib.hid (And.intro hT1 (And.intro hb1 hwX))
  clear hT1 hb1 hn hX hwX
  go_wp2_with fail
  have ho := openW_any X (X + 1) _ PT.empty 77 1 true w1 H1.out.1 (by decide) (by decide) (by unfold wf64; decide) (by unfold wf64; decide)
  rw [af1] at ho
  refine ho.mono ?_
  rintro e w2 hd
  obtain ⟨S2, rfl, hT2, ht2, hi2⟩ := hd.into
  have hb2 : Below X w0 w2 := below_turn H1.out.2.1 ht2 (fun x hx => (H1.out.1.ge x hx).1) (by rw [← HX.out]; exact H1.out.2.1.size)
  have H2 := Lib.hid (And.intro hT2 hb2)
  clear hd hT2 ht2 hi2 hb2 ho
  go_wp2_with fail
  have ho := login_any X (X + 1) S2 aT1 77 1 1 w2 H2.out.1 (by unfold wf64; decide) (by unfold wf64; decide) (by unfold wf64; decide) (by decide)
  rw [af2, af2'] at ho
  refine ho.mono ?_
  rintro e w3 hd
  obtain ⟨S3, rfl, hT3, ht3, hi3⟩ := hd.into
  have hb3 : Below X w0 w3 := below_turn H2.out.2 ht3 (fun x hx => (H2.out.1.ge x hx).1) (by rw [← HX.out]; exact H2.out.2.size)
  have hbw : Below w.heap.size w w3 := H0.out.trans (hb3.mono H1.out.2.2)
  have hs3 : X ≤ w3.heap.size := by have := hb3.size; have := HX.out; omega
  have H3 := Lib.hid (And.intro hT3 (And.intro hbw hs3))
  clear hd hT3 ht3 hi3 hb3 ho hbw hs3
  go_wp2_with fail
  go_loopw [7] (fun kk wr => ∃ k : Nat, k ≤ m ∧ k ≤ 30 ∧ kk = .int .i64 (k : Int) ∧ ∃ S T, Tb wr X (X + 1) S T ∧ Apart T k ∧ Below w.heap.size w wr) (fun kk _ => 30 - (intOf kk).toNat)
  case atStart => exact ⟨0, by omega, by omega, rfl, S3, aT2, H3.out.1, af3, H3.out.2.1⟩
  case round =>
    obtain ⟨k, hk, hk30, rfl, S, T, hT, hap, hB⟩ := hrel
    by_cases hlt : k < m
    · have hltd : decide ((k : Int) < (m : Int)) = true := decide_eq_true (by omega)
      have hlti : (k : Int) < (m : Int) := by omega
      by_cases h30 : k < 30
      · have h30d : decide ((k : Int) < 30) = true := decide_eq_true (by omega)
        have h30i : (k : Int) < 30 := by omega
        have hk0 : ¬ ((k : Int) < 0) := by omega
        obtain ⟨x, hx⟩ : ∃ x, l[k]? = some x := ⟨_, List.getElem?_eq_getElem (by rw [hml]; exact hlt)⟩
        have hxw := HO.out.2 x (List.mem_of_getElem? hx)
        obtain ⟨g, off, hAe, hg, c0, c1, c2, c3, c4, c5⟩ := op_at (HO.out.1.below hB) hx
        subst hAe
        have hTge := hT.ge
        have hq : X ≤ wr.heap.size := by obtain ⟨A', m', c', mb', h', e'⟩ := hT; have := h'.blk.lt; omega
        have HT := Lib.hid (And.intro hT (And.intro hap (And.intro hB (And.intro hTge (And.intro hxw hq)))))
        clear hT hap hB hTge hx hxw hg hq
        by_cases hc77 : x.conn = 77
        · rw [hc77] at c1
          obtain ⟨wA, hwA⟩ : ∃ wA, wr.alloc (.cells #[.int .i64 x.kind, .int .i64 77, .int .i64 x.slot, .int .i64 x.h, .int .i64 x.user, .bool x.rw] 32) = wA := ⟨_, rfl⟩
          have bA : Blk wA wr.heap.size 32 #[.int .i64 x.kind, .int .i64 77, .int .i64 x.slot, .int .i64 x.h, .int .i64 x.user, .bool x.rw] := by rw [← hwA]; exact Blk.new _ _ _
          have hbA : Below wr.heap.size wr wA := by rw [← hwA]; exact (Below.refl _ _).alloc (Nat.le_refl _) _
          obtain ⟨Z, hZ⟩ : ∃ Z, wr.heap.size = Z := ⟨_, rfl⟩
          rw [hZ] at bA
          have g0 := bA.cell 0
          have g1 := bA.cell 1
          have g2 := bA.cell 2
          have g3 := bA.cell 3
          have g4 := bA.cell 4
          have g5 := bA.cell 5
          simp only [List.getElem?_toArray, List.getElem?_cons_succ, List.getElem?_cons_zero] at g0 g1 g2 g3 g4 g5
          have HA := Lib.hid (And.intro (HT.out.1.below hbA) (And.intro bA (And.intro hbA (fun hm => by have := (HT.out.2.2.2.1 Z hm).2; omega : Z ∉ S))))
          clear bA hbA
          go_wp2_with fail
          try rw [hwA]
          go_roundw
          case measure => simp [intOf]; omega
          exact ⟨k + 1, by omega, by omega, by simp, S, T, HA.out.1, HT.out.2.1.more, HT.out.2.2.1.trans (HA.out.2.2.1.mono HT.out.2.2.1.size)⟩
        have hcd : decide (x.conn = 77) = false := decide_eq_false hc77
        have hcd2 : (x.conn == 77) = false := by simp [hc77]
        by_cases hk0 : x.kind = 0
        · rw [hk0] at c0
          obtain ⟨wA, hwA⟩ : ∃ wA, wr.alloc (.cells #[.int .i64 0, .int .i64 x.conn, .int .i64 x.slot, .int .i64 x.h, .int .i64 x.user, .bool x.rw] 32) = wA := ⟨_, rfl⟩
          have bA : Blk wA wr.heap.size 32 #[.int .i64 0, .int .i64 x.conn, .int .i64 x.slot, .int .i64 x.h, .int .i64 x.user, .bool x.rw] := by rw [← hwA]; exact Blk.new _ _ _
          have hbA : Below wr.heap.size wr wA := by rw [← hwA]; exact (Below.refl _ _).alloc (Nat.le_refl _) _
          obtain ⟨Z, hZ⟩ : ∃ Z, wr.heap.size = Z := ⟨_, rfl⟩
          rw [hZ] at bA
          have g0 := bA.cell 0
          have g1 := bA.cell 1
          have g2 := bA.cell 2
          have g3 := bA.cell 3
          have g4 := bA.cell 4
          have g5 := bA.cell 5
          simp only [List.getElem?_toArray, List.getElem?_cons_succ, List.getElem?_cons_zero] at g0 g1 g2 g3 g4 g5
          have HA := Lib.hid (And.intro (HT.out.1.below hbA) (And.intro bA (And.intro hbA (fun hm => by have := (HT.out.2.2.2.1 Z hm).2; omega : Z ∉ S))))
          clear bA hbA
          go_wp2_with fail
          try rw [hwA]
          try rw [hZ]
          have ho := openW_any X (X + 1) S T x.conn x.slot x.rw wA HA.out.1 (by have := HT.out.2.1.last; omega) (by have := HT.out.2.1.last; omega) HT.out.2.2.2.2.1.2.1 HT.out.2.2.2.2.1.2.2.1
          refine ho.mono ?_
          rintro e w2 hd
          obtain ⟨S', rfl, hT2, ht2, hi2⟩ := hd.into
          obtain ⟨T', hT'⟩ : ∃ T', (T.openW x.conn x.slot x.rw).2.2 = T' := ⟨_, rfl⟩
          have hap2 := (HT.out.2.1.opened x.conn x.slot x.rw)
          rw [hT'] at hT2 hap2
          clear hT'
          have HI := Lib.hid (ApI.of (conn := x.conn) hT2 ht2 hap2 HA.out.2.1 HA.out.2.2.2)
          try clear hd
          clear hT2 ht2 hi2 ho g0 g1 g2 g3 g4 g5 c0 c1 c2 c3 c4 c5
          try clear hwA hZ
          have g1 := HI.out.box.cell 1
          simp only [List.getElem?_toArray, List.getElem?_cons_succ, List.getElem?_cons_zero] at g1
          go_wp2_with fail
          have ho := state_any X (X + 1) S' T' 77 1 w2 HI.out.tb
          rw [HI.out.ap.state] at ho
          refine ho.mono ?_
          rintro e w4 ⟨rfl, hb4⟩
          have H4 := Lib.hid hb4
          clear hb4 ho g1
          have g1 := (HI.out.box.below H4.out).cell 1
          simp only [List.getElem?_toArray, List.getElem?_cons_succ, List.getElem?_cons_zero] at g1
          go_wp2_with fail
          have ho := state_any X (X + 1) S' T' x.conn 1 w4 (HI.out.tb.below H4.out)
          rw [HI.out.ap.other x.conn hc77] at ho
          refine ho.mono ?_
          rintro e w5 ⟨rfl, hb5⟩
          have H5 := Lib.hid (H4.out.trans (hb5.mono H4.out.size))
          clear hb5 ho g1
          go_wp2_with fail
          go_roundw
          case measure => simp [intOf]; omega
          refine ⟨k + 1, by omega, by omega, by simp, S', T', HI.out.tb.below H5.out, HI.out.ap, ?_⟩
          have h1 : Below w.heap.size w wA := HT.out.2.2.1.trans (HA.out.2.2.1.mono (by have := HT.out.2.2.1.size; omega))
          have h2 : Below w.heap.size w w2 := below_turn h1 HI.out.turn (fun t ht => by have := (HT.out.2.2.2.1 t ht).1; have := H1.out.2.2; omega) h1.size
          exact h2.trans (H5.out.mono h2.size)
        have kd0 : (x.kind == 0) = false := by simp [hk0]
        by_cases hk1 : x.kind = 1
        · rw [hk1] at c0
          obtain ⟨wA, hwA⟩ : ∃ wA, wr.alloc (.cells #[.int .i64 1, .int .i64 x.conn, .int .i64 x.slot, .int .i64 x.h, .int .i64 x.user, .bool x.rw] 32) = wA := ⟨_, rfl⟩
          have bA : Blk wA wr.heap.size 32 #[.int .i64 1, .int .i64 x.conn, .int .i64 x.slot, .int .i64 x.h, .int .i64 x.user, .bool x.rw] := by rw [← hwA]; exact Blk.new _ _ _
          have hbA : Below wr.heap.size wr wA := by rw [← hwA]; exact (Below.refl _ _).alloc (Nat.le_refl _) _
          obtain ⟨Z, hZ⟩ : ∃ Z, wr.heap.size = Z := ⟨_, rfl⟩
          rw [hZ] at bA
          have g0 := bA.cell 0
          have g1 := bA.cell 1
          have g2 := bA.cell 2
          have g3 := bA.cell 3
          have g4 := bA.cell 4
          have g5 := bA.cell 5
          simp only [List.getElem?_toArray, List.getElem?_cons_succ, List.getElem?_cons_zero] at g0 g1 g2 g3 g4 g5
          have HA := Lib.hid (And.intro (HT.out.1.below hbA) (And.intro bA (And.intro hbA (fun hm => by have := (HT.out.2.2.2.1 Z hm).2; omega : Z ∉ S))))
          clear bA hbA
          go_wp2_with fail
          try rw [hwA]
          try rw [hZ]
          have ho := closeW_any X (X + 1) S T x.conn x.h wA HA.out.1
          refine ho.mono ?_
          rintro e w2 hd
          obtain ⟨S', rfl, hT2, ht2, hi2⟩ := hd.into
          obtain ⟨T', hT'⟩ : ∃ T', (T.closeW x.conn x.h).2 = T' := ⟨_, rfl⟩
          have hap2 := (HT.out.2.1.closeW x.conn x.h hc77)
          rw [hT'] at hT2 hap2
          clear hT'
          have HI := Lib.hid (ApI.of (conn := x.conn) hT2 ht2 hap2 HA.out.2.1 HA.out.2.2.2)
          try clear hd
          clear hT2 ht2 hi2 ho g0 g1 g2 g3 g4 g5 c0 c1 c2 c3 c4 c5
          try clear hwA hZ
          have g1 := HI.out.box.cell 1
          simp only [List.getElem?_toArray, List.getElem?_cons_succ, List.getElem?_cons_zero] at g1
          go_wp2_with fail
          have ho := state_any X (X + 1) S' T' 77 1 w2 HI.out.tb
          rw [HI.out.ap.state] at ho
          refine ho.mono ?_
          rintro e w4 ⟨rfl, hb4⟩
          have H4 := Lib.hid hb4
          clear hb4 ho g1
          have g1 := (HI.out.box.below H4.out).cell 1
          simp only [List.getElem?_toArray, List.getElem?_cons_succ, List.getElem?_cons_zero] at g1
          go_wp2_with fail
          have ho := state_any X (X + 1) S' T' x.conn 1 w4 (HI.out.tb.below H4.out)
          rw [HI.out.ap.other x.conn hc77] at ho
          refine ho.mono ?_
          rintro e w5 ⟨rfl, hb5⟩
          have H5 := Lib.hid (H4.out.trans (hb5.mono H4.out.size))
          clear hb5 ho g1
          go_wp2_with fail
          go_roundw
          case measure => simp [intOf]; omega
          refine ⟨k + 1, by omega, by omega, by simp, S', T', HI.out.tb.below H5.out, HI.out.ap, ?_⟩
          have h1 : Below w.heap.size w wA := HT.out.2.2.1.trans (HA.out.2.2.1.mono (by have := HT.out.2.2.1.size; omega))
          have h2 : Below w.heap.size w w2 := below_turn h1 HI.out.turn (fun t ht => by have := (HT.out.2.2.2.1 t ht).1; have := H1.out.2.2; omega) h1.size
          exact h2.trans (H5.out.mono h2.size)
        have kd1 : (x.kind == 1) = false := by simp [hk1]
        by_cases hk2 : x.kind = 2
        · rw [hk2] at c0
          obtain ⟨wA, hwA⟩ : ∃ wA, wr.alloc (.cells #[.int .i64 2, .int .i64 x.conn, .int .i64 x.slot, .int .i64 x.h, .int .i64 x.user, .bool x.rw] 32) = wA := ⟨_, rfl⟩
          have bA : Blk wA wr.heap.size 32 #[.int .i64 2, .int .i64 x.conn, .int .i64 x.slot, .int .i64 x.h, .int .i64 x.user, .bool x.rw] := by rw [← hwA]; exact Blk.new _ _ _
          have hbA : Below wr.heap.size wr wA := by rw [← hwA]; exact (Below.refl _ _).alloc (Nat.le_refl _) _
          obtain ⟨Z, hZ⟩ : ∃ Z, wr.heap.size = Z := ⟨_, rfl⟩
          rw [hZ] at bA
          have g0 := bA.cell 0
          have g1 := bA.cell 1
          have g2 := bA.cell 2
          have g3 := bA.cell 3
          have g4 := bA.cell 4
          have g5 := bA.cell 5
          simp only [List.getElem?_toArray, List.getElem?_cons_succ, List.getElem?_cons_zero] at g0 g1 g2 g3 g4 g5
          have HA := Lib.hid (And.intro (HT.out.1.below hbA) (And.intro bA (And.intro hbA (fun hm => by have := (HT.out.2.2.2.1 Z hm).2; omega : Z ∉ S))))
          clear bA hbA
          go_wp2_with fail
          try rw [hwA]
          try rw [hZ]
          have ho := closeAll_any X (X + 1) S T x.conn x.slot wA HA.out.1
          refine ho.mono ?_
          rintro e w2 hd
          obtain ⟨A9, n9, c9, S', rfl, _, hT2, ht2, hi2⟩ := hd
          obtain ⟨T', hT'⟩ : ∃ T', (T.closed fun y => decide (y.c = x.conn ∧ y.s = x.slot)) = T' := ⟨_, rfl⟩
          have hap2 := (HT.out.2.1.closed (fun y => decide (y.c = x.conn ∧ y.s = x.slot)) (decide_eq_false (fun e => hc77 e.1.symm)))
          rw [hT'] at hT2 hap2
          clear hT'
          have HI := Lib.hid (ApI.of (conn := x.conn) hT2 ht2 hap2 HA.out.2.1 HA.out.2.2.2)
          try clear hd
          clear hT2 ht2 hi2 ho g0 g1 g2 g3 g4 g5 c0 c1 c2 c3 c4 c5
          try clear hwA hZ
          have g1 := HI.out.box.cell 1
          simp only [List.getElem?_toArray, List.getElem?_cons_succ, List.getElem?_cons_zero] at g1
          go_wp2_with fail
          have ho := state_any X (X + 1) S' T' 77 1 w2 HI.out.tb
          rw [HI.out.ap.state] at ho
          refine ho.mono ?_
          rintro e w4 ⟨rfl, hb4⟩
          have H4 := Lib.hid hb4
          clear hb4 ho g1
          have g1 := (HI.out.box.below H4.out).cell 1
          simp only [List.getElem?_toArray, List.getElem?_cons_succ, List.getElem?_cons_zero] at g1
          go_wp2_with fail
          have ho := state_any X (X + 1) S' T' x.conn 1 w4 (HI.out.tb.below H4.out)
          rw [HI.out.ap.other x.conn hc77] at ho
          refine ho.mono ?_
          rintro e w5 ⟨rfl, hb5⟩
          have H5 := Lib.hid (H4.out.trans (hb5.mono H4.out.size))
          clear hb5 ho g1
          go_wp2_with fail
          go_roundw
          case measure => simp [intOf]; omega
          refine ⟨k + 1, by omega, by omega, by simp, S', T', HI.out.tb.below H5.out, HI.out.ap, ?_⟩
          have h1 : Below w.heap.size w wA := HT.out.2.2.1.trans (HA.out.2.2.1.mono (by have := HT.out.2.2.1.size; omega))
          have h2 : Below w.heap.size w w2 := below_turn h1 HI.out.turn (fun t ht => by have := (HT.out.2.2.2.1 t ht).1; have := H1.out.2.2; omega) h1.size
          exact h2.trans (H5.out.mono h2.size)
        have kd2 : (x.kind == 2) = false := by simp [hk2]
        by_cases hk3 : x.kind = 3
        · rw [hk3] at c0
          obtain ⟨wA, hwA⟩ : ∃ wA, wr.alloc (.cells #[.int .i64 3, .int .i64 x.conn, .int .i64 x.slot, .int .i64 x.h, .int .i64 x.user, .bool x.rw] 32) = wA := ⟨_, rfl⟩
          have bA : Blk wA wr.heap.size 32 #[.int .i64 3, .int .i64 x.conn, .int .i64 x.slot, .int .i64 x.h, .int .i64 x.user, .bool x.rw] := by rw [← hwA]; exact Blk.new _ _ _
          have hbA : Below wr.heap.size wr wA := by rw [← hwA]; exact (Below.refl _ _).alloc (Nat.le_refl _) _
          obtain ⟨Z, hZ⟩ : ∃ Z, wr.heap.size = Z := ⟨_, rfl⟩
          rw [hZ] at bA
          have g0 := bA.cell 0
          have g1 := bA.cell 1
          have g2 := bA.cell 2
          have g3 := bA.cell 3
          have g4 := bA.cell 4
          have g5 := bA.cell 5
          simp only [List.getElem?_toArray, List.getElem?_cons_succ, List.getElem?_cons_zero] at g0 g1 g2 g3 g4 g5
          have HA := Lib.hid (And.intro (HT.out.1.below hbA) (And.intro bA (And.intro hbA (fun hm => by have := (HT.out.2.2.2.1 Z hm).2; omega : Z ∉ S))))
          clear bA hbA
          go_wp2_with fail
          try rw [hwA]
          try rw [hZ]
          have ho := drop_any X (X + 1) S T x.conn wA HA.out.1
          refine ho.mono ?_
          rintro e w2 hd
          obtain ⟨A9, n9, c9, S', rfl, _, hT2, ht2, hi2⟩ := hd
          obtain ⟨T', hT'⟩ : ∃ T', (T.closed fun y => decide (y.c = x.conn)) = T' := ⟨_, rfl⟩
          have hap2 := (HT.out.2.1.closed (fun y => decide (y.c = x.conn)) (decide_eq_false (fun e => hc77 e.symm)))
          rw [hT'] at hT2 hap2
          clear hT'
          have HI := Lib.hid (ApI.of (conn := x.conn) hT2 ht2 hap2 HA.out.2.1 HA.out.2.2.2)
          try clear hd
          clear hT2 ht2 hi2 ho g0 g1 g2 g3 g4 g5 c0 c1 c2 c3 c4 c5
          try clear hwA hZ
          have g1 := HI.out.box.cell 1
          simp only [List.getElem?_toArray, List.getElem?_cons_succ, List.getElem?_cons_zero] at g1
          go_wp2_with fail
          have ho := state_any X (X + 1) S' T' 77 1 w2 HI.out.tb
          rw [HI.out.ap.state] at ho
          refine ho.mono ?_
          rintro e w4 ⟨rfl, hb4⟩
          have H4 := Lib.hid hb4
          clear hb4 ho g1
          have g1 := (HI.out.box.below H4.out).cell 1
          simp only [List.getElem?_toArray, List.getElem?_cons_succ, List.getElem?_cons_zero] at g1
          go_wp2_with fail
          have ho := state_any X (X + 1) S' T' x.conn 1 w4 (HI.out.tb.below H4.out)
          rw [HI.out.ap.other x.conn hc77] at ho
          refine ho.mono ?_
          rintro e w5 ⟨rfl, hb5⟩
          have H5 := Lib.hid (H4.out.trans (hb5.mono H4.out.size))
          clear hb5 ho g1
          go_wp2_with fail
          go_roundw
          case measure => simp [intOf]; omega
          refine ⟨k + 1, by omega, by omega, by simp, S', T', HI.out.tb.below H5.out, HI.out.ap, ?_⟩
          have h1 : Below w.heap.size w wA := HT.out.2.2.1.trans (HA.out.2.2.1.mono (by have := HT.out.2.2.1.size; omega))
          have h2 : Below w.heap.size w w2 := below_turn h1 HI.out.turn (fun t ht => by have := (HT.out.2.2.2.1 t ht).1; have := H1.out.2.2; omega) h1.size
          exact h2.trans (H5.out.mono h2.size)
        have kd3 : (x.kind == 3) = false := by simp [hk3]
        by_cases hk4 : x.kind = 4
        · rw [hk4] at c0
          obtain ⟨wA, hwA⟩ : ∃ wA, wr.alloc (.cells #[.int .i64 4, .int .i64 x.conn, .int .i64 x.slot, .int .i64 x.h, .int .i64 x.user, .bool x.rw] 32) = wA := ⟨_, rfl⟩
          have bA : Blk wA wr.heap.size 32 #[.int .i64 4, .int .i64 x.conn, .int .i64 x.slot, .int .i64 x.h, .int .i64 x.user, .bool x.rw] := by rw [← hwA]; exact Blk.new _ _ _
          have hbA : Below wr.heap.size wr wA := by rw [← hwA]; exact (Below.refl _ _).alloc (Nat.le_refl _) _
          obtain ⟨Z, hZ⟩ : ∃ Z, wr.heap.size = Z := ⟨_, rfl⟩
          rw [hZ] at bA
          have g0 := bA.cell 0
          have g1 := bA.cell 1
          have g2 := bA.cell 2
          have g3 := bA.cell 3
          have g4 := bA.cell 4
          have g5 := bA.cell 5
          simp only [List.getElem?_toArray, List.getElem?_cons_succ, List.getElem?_cons_zero] at g0 g1 g2 g3 g4 g5
          have HA := Lib.hid (And.intro (HT.out.1.below hbA) (And.intro bA (And.intro hbA (fun hm => by have := (HT.out.2.2.2.1 Z hm).2; omega : Z ∉ S))))
          clear bA hbA
          go_wp2_with fail
          try rw [hwA]
          try rw [hZ]
          have ho := login_any X (X + 1) S T x.conn x.slot x.user wA HA.out.1 HT.out.2.2.2.2.1.2.1 HT.out.2.2.2.2.1.2.2.1 HT.out.2.2.2.2.1.2.2.2.2 (by have := HT.out.2.1.n; omega)
          refine ho.mono ?_
          rintro e w2 hd
          obtain ⟨S', rfl, hT2, ht2, hi2⟩ := hd.into
          obtain ⟨T', hT'⟩ : ∃ T', (T.loginW x.conn x.slot x.user) = T' := ⟨_, rfl⟩
          have hap2 := (HT.out.2.1.loginW x.conn x.slot x.user hc77)
          rw [hT'] at hT2 hap2
          clear hT'
          have HI := Lib.hid (ApI.of (conn := x.conn) hT2 ht2 hap2 HA.out.2.1 HA.out.2.2.2)
          try clear hd
          clear hT2 ht2 hi2 ho g0 g1 g2 g3 g4 g5 c0 c1 c2 c3 c4 c5
          try clear hwA hZ
          have g1 := HI.out.box.cell 1
          simp only [List.getElem?_toArray, List.getElem?_cons_succ, List.getElem?_cons_zero] at g1
          go_wp2_with fail
          have ho := state_any X (X + 1) S' T' 77 1 w2 HI.out.tb
          rw [HI.out.ap.state] at ho
          refine ho.mono ?_
          rintro e w4 ⟨rfl, hb4⟩
          have H4 := Lib.hid hb4
          clear hb4 ho g1
          have g1 := (HI.out.box.below H4.out).cell 1
          simp only [List.getElem?_toArray, List.getElem?_cons_succ, List.getElem?_cons_zero] at g1
          go_wp2_with fail
          have ho := state_any X (X + 1) S' T' x.conn 1 w4 (HI.out.tb.below H4.out)
          rw [HI.out.ap.other x.conn hc77] at ho
          refine ho.mono ?_
          rintro e w5 ⟨rfl, hb5⟩
          have H5 := Lib.hid (H4.out.trans (hb5.mono H4.out.size))
          clear hb5 ho g1
          go_wp2_with fail
          go_roundw
          case measure => simp [intOf]; omega
          refine ⟨k + 1, by omega, by omega, by simp, S', T', HI.out.tb.below H5.out, HI.out.ap, ?_⟩
          have h1 : Below w.heap.size w wA := HT.out.2.2.1.trans (HA.out.2.2.1.mono (by have := HT.out.2.2.1.size; omega))
          have h2 : Below w.heap.size w w2 := below_turn h1 HI.out.turn (fun t ht => by have := (HT.out.2.2.2.1 t ht).1; have := H1.out.2.2; omega) h1.size
          exact h2.trans (H5.out.mono h2.size)
        have kd4 : (x.kind == 4) = false := by simp [hk4]
        obtain ⟨wA, hwA⟩ : ∃ wA, wr.alloc (.cells #[.int .i64 x.kind, .int .i64 x.conn, .int .i64 x.slot, .int .i64 x.h, .int .i64 x.user, .bool x.rw] 32) = wA := ⟨_, rfl⟩
        have bA : Blk wA wr.heap.size 32 #[.int .i64 x.kind, .int .i64 x.conn, .int .i64 x.slot, .int .i64 x.h, .int .i64 x.user, .bool x.rw] := by rw [← hwA]; exact Blk.new _ _ _
        have hbA : Below wr.heap.size wr wA := by rw [← hwA]; exact (Below.refl _ _).alloc (Nat.le_refl _) _
        obtain ⟨Z, hZ⟩ : ∃ Z, wr.heap.size = Z := ⟨_, rfl⟩
        rw [hZ] at bA
        have g0 := bA.cell 0
        have g1 := bA.cell 1
        have g2 := bA.cell 2
        have g3 := bA.cell 3
        have g4 := bA.cell 4
        have g5 := bA.cell 5
        simp only [List.getElem?_toArray, List.getElem?_cons_succ, List.getElem?_cons_zero] at g0 g1 g2 g3 g4 g5
        have HA := Lib.hid (And.intro (HT.out.1.below hbA) (And.intro bA (And.intro hbA (fun hm => by have := (HT.out.2.2.2.1 Z hm).2; omega : Z ∉ S))))
        clear bA hbA
        go_wp2_with fail
        try rw [hwA]
        try rw [hZ]
        have ho := logout_any X (X + 1) S T x.conn x.slot wA HA.out.1 HT.out.2.2.2.2.1.2.1 HT.out.2.2.2.2.1.2.2.1
        refine ho.mono ?_
        rintro e w2 hd
        obtain ⟨S', rfl, hT2, ht2, hi2⟩ := hd.into
        obtain ⟨T', hT'⟩ : ∃ T', (T.logoutW x.conn x.slot).2 = T' := ⟨_, rfl⟩
        have hap2 := (HT.out.2.1.logoutW x.conn x.slot hc77)
        rw [hT'] at hT2 hap2
        clear hT'
        have HI := Lib.hid (ApI.of (conn := x.conn) hT2 ht2 hap2 HA.out.2.1 HA.out.2.2.2)
        try clear hd
        clear hT2 ht2 hi2 ho g0 g1 g2 g3 g4 g5 c0 c1 c2 c3 c4 c5
        try clear hwA hZ
        have g1 := HI.out.box.cell 1
        simp only [List.getElem?_toArray, List.getElem?_cons_succ, List.getElem?_cons_zero] at g1
        go_wp2_with fail
        have ho := state_any X (X + 1) S' T' 77 1 w2 HI.out.tb
        rw [HI.out.ap.state] at ho
        refine ho.mono ?_
        rintro e w4 ⟨rfl, hb4⟩
        have H4 := Lib.hid hb4
        clear hb4 ho g1
        have g1 := (HI.out.box.below H4.out).cell 1
        simp only [List.getElem?_toArray, List.getElem?_cons_succ, List.getElem?_cons_zero] at g1
        go_wp2_with fail
        have ho := state_any X (X + 1) S' T' x.conn 1 w4 (HI.out.tb.below H4.out)
        rw [HI.out.ap.other x.conn hc77] at ho
        refine ho.mono ?_
        rintro e w5 ⟨rfl, hb5⟩
        have H5 := Lib.hid (H4.out.trans (hb5.mono H4.out.size))
        clear hb5 ho g1
        go_wp2_with fail
        go_roundw
        case measure => simp [intOf]; omega
        refine ⟨k + 1, by omega, by omega, by simp, S', T', HI.out.tb.below H5.out, HI.out.ap, ?_⟩
        have h1 : Below w.heap.size w wA := HT.out.2.2.1.trans (HA.out.2.2.1.mono (by have := HT.out.2.2.1.size; omega))
        have h2 : Below w.heap.size w w2 := below_turn h1 HI.out.turn (fun t ht => by have := (HT.out.2.2.2.1 t ht).1; have := H1.out.2.2; omega) h1.size
        exact h2.trans (H5.out.mono h2.size)
      · have h30d : decide ((k : Int) < 30) = false := decide_eq_false (by omega)
        have h30i : ¬ (k : Int) < 30 := by omega
        have HB := Lib.hid hB
        clear hT hap hB
        go_wp2_with fail
        go_ret
        exact ⟨rfl, HB.out⟩
    · have hltd : decide ((k : Int) < (m : Int)) = false := decide_eq_false (by omega)
      have hlti : ¬ (k : Int) < (m : Int) := by omega
      have HB := Lib.hid hB
      clear hT hap hB
      go_wp2_with fail
      go_ret
      exact ⟨rfl, HB.out⟩
end Go.Proofs.Ytnpncbpbeikcaaa
