/-
  The law SessionAll, walked.
-/
import Derived.Test.YtnpncbpbeikcaaaSesB
namespace Go.Proofs.Ytnpncbpbeikcaaa
open Go.RowKit Go.Maps

set_option maxRecDepth 100000 in
set_option maxHeartbeats 8000000 in
theorem sessionAll_any (A : Option Addr) (m c : Nat) (l : List OpP) (w : World) (hm : m ≤ maxLen) (hops : RdC Try.eO w A m l) (hwf : ∀ x ∈ l, x.wf) : Calls Try.prog 3 #[.slice A m c] w fun e w' => e = .returned (.bool true) ∧ Below w.heap.size w w' := by
  have HO := Lib.hid (And.intro hops hwf)
  have hml := hops.1
  have hm63 : (m : Int) ≤ 9223372036854775807 := by unfold maxLen at hm; omega
  clear hops hwf
  go_enter Try.func3, Try.ntmps3
  go_wp2_with fail
  refine (begun_any w).mono ?_
  rintro e w0 ⟨rfl, hb0⟩
  have H0 := Lib.hid hb0
  clear hb0
  go_wp2_with fail
  obtain ⟨X, hX⟩ : ∃ X, w0.heap.size = X := ⟨_, rfl⟩
  have HX := Lib.hid hX
  have hn := new_any w0
  rw [hX] at hn
  refine hn.mono ?_
  rintro e w1 ⟨rfl, hT1, hb1⟩
  have hwX : w.heap.size ≤ X := by rw [← hX]; exact H0.out.size
  have hb1w : Below w.heap.size w w1 := H0.out.trans (hb1.mono hwX)
  obtain ⟨r, hr⟩ : ∃ r, w1.heap.size = r := ⟨_, rfl⟩
  obtain ⟨wR, hwR⟩ : ∃ wR, w1.alloc (.cells #[.slice none 0 0, .int .i64 0, .slice none 0 0] 30) = wR := ⟨_, rfl⟩
  have bR : Blk wR r 30 #[.slice none 0 0, .int .i64 0, .slice none 0 0] := by rw [← hwR, ← hr]; exact Blk.new _ _ _
  have hbR : Below w1.heap.size w1 wR := by rw [← hwR]; exact (Below.refl _ _).alloc (Nat.le_refl _) _
  have hal : Al w X r wR [X + 1, X] [r] PT.empty ⟨[], 0, []⟩ := ⟨hT1.below hbR, Rb.new bR, hb1w.trans (hbR.mono hb1w.size), hwX, by rw [← hr]; exact hb1w.size⟩
  have H1 := Lib.hid hal
  clear hT1 hb1 hn hX hwX hb1w bR hbR hal
  go_wp2_with fail
  try rw [hwR]
  try rw [hr]
  go_loopw [6] (fun kk wr => ∃ k : Nat, k ≤ m ∧ k ≤ 50 ∧ kk = .int .i64 (k : Int) ∧ ∃ S S2 T R, Al w X r wr S S2 T R ∧ Rel T R ∧ Bnd T R k) (fun kk _ => 50 - (intOf kk).toNat)
  case atStart => exact ⟨0, by omega, by omega, rfl, _, _, _, _, H1.out, Rel.empty, ⟨by simp [PT.empty], by simp [PT.empty], by simp [PT.empty], by simp⟩⟩
  case round =>
    clear hwR
    obtain ⟨k, hk, hk50, rfl, S, S2, T, R, hal, hrl, hbd⟩ := hrel
    by_cases hlt : k < m
    · have hltd : decide ((k : Int) < (m : Int)) = true := decide_eq_true (by omega)
      have hlti : (k : Int) < (m : Int) := by omega
      by_cases h50 : k < 50
      · have h50d : decide ((k : Int) < 50) = true := decide_eq_true (by omega)
        have h50i : (k : Int) < 50 := by omega
        have hk0 : ¬ ((k : Int) < 0) := by omega
        obtain ⟨x, hx⟩ : ∃ x, l[k]? = some x := ⟨_, List.getElem?_eq_getElem (by rw [hml]; exact hlt)⟩
        have hxw := HO.out.2 x (List.mem_of_getElem? hx)
        obtain ⟨g, off, hAe, hg, c0, c1, c2, c3, c4, c5⟩ := op_at (HO.out.1.below hal.bel) hx
        subst hAe
        have hsm : T.l.length ≤ 1000 := by obtain ⟨A', m', c', mb', h', e'⟩ := hal.tb; exact h'.small
        have HT := Lib.hid (And.intro hal (And.intro hrl (And.intro hbd (And.intro hxw hsm))))
        clear hal hrl hbd hx hxw hg hsm
        by_cases hq0 : x.kind = 0
        · rw [hq0] at c0
          obtain ⟨wA, hwA⟩ : ∃ wA, wr.alloc (.cells #[.int .i64 0, .int .i64 x.conn, .int .i64 x.slot, .int .i64 x.h, .int .i64 x.user, .bool x.rw] 32) = wA := ⟨_, rfl⟩
          obtain ⟨Z, hZ⟩ : ∃ Z, wr.heap.size = Z := ⟨_, rfl⟩
          have bA : Blk wA Z 32 #[.int .i64 0, .int .i64 x.conn, .int .i64 x.slot, .int .i64 x.h, .int .i64 x.user, .bool x.rw] := by rw [← hwA, ← hZ]; exact Blk.new _ _ _
          have hbA : Below wr.heap.size wr wA := by rw [← hwA]; exact (Below.refl _ _).alloc (Nat.le_refl _) _
          have g0 := bA.cell 0
          have g1 := bA.cell 1
          have g2 := bA.cell 2
          have g3 := bA.cell 3
          have g4 := bA.cell 4
          have g5 := bA.cell 5
          simp only [List.getElem?_toArray, List.getElem?_cons_succ, List.getElem?_cons_zero] at g0 g1 g2 g3 g4 g5
          have HA := Lib.hid (And.intro (HT.out.1.b hbA) bA)
          clear bA hbA
          have ho := openW_any X (X + 1) S T x.conn x.slot x.rw wA HA.out.1.tb (by have := HT.out.2.2.1.l0; omega) (by have := HT.out.2.2.1.l1; omega) HT.out.2.2.2.1.2.1 HT.out.2.2.2.1.2.2.1
          have hro := fun (w2 : World) (hh : Rb w2 r r S2 R) => ropen_any r r S2 R x.conn x.slot x.rw w2 hh (by have := HT.out.2.2.1.l0; have := HT.out.2.1.next; omega) (by have := HT.out.2.2.1.l1; have := HT.out.2.1.next; omega)
          have hrl := HT.out.2.1.opened HT.out.2.2.1.l0 x.conn x.slot x.rw
          have er1 : (R.openW x.conn x.slot x.rw).1 = (T.openW x.conn x.slot x.rw).1 := by rw [hrl.1]
          have er2 : (R.openW x.conn x.slot x.rw).2.1 = (T.openW x.conn x.slot x.rw).2.1 := by rw [hrl.1]
          simp only [er1, er2] at hro
          have hrel2 := hrl.2
          have hbd2 := HT.out.2.2.1.opened x.conn x.slot x.rw
          clear er1 er2 hrl
          generalize (T.openW x.conn x.slot x.rw).1 = v1 at ho hro
          generalize (T.openW x.conn x.slot x.rw).2.1 = v2 at ho hro
          generalize (T.openW x.conn x.slot x.rw).2.2 = T' at ho hrel2 hbd2
          generalize (R.openW x.conn x.slot x.rw).2.2 = R' at hro hrel2 hbd2
          have HP := Lib.hid (And.intro ho (And.intro hro (And.intro hrel2 hbd2)))
          clear ho hro hrel2 hbd2
          go_wp2_with fail
          try rw [hwA]
          try rw [hZ]
          try clear hwA
          try clear hZ
          refine HP.out.1.mono ?_
          rintro e w2 hd
          obtain ⟨S', rfl, hT2, ht2, hi2⟩ := hd.into
          have H2 := Lib.hid (And.intro (HA.out.1.tt hT2 ht2) (HA.out.1.boxT ht2 HA.out.2 (by decide) (by decide)))
          try clear hd
          clear hT2 ht2 hi2 g0 g1 g2 g3 g4 g5 c0 c1 c2 c3 c4 c5
          have g0 := H2.out.2.cell 0
          have g1 := H2.out.2.cell 1
          have g2 := H2.out.2.cell 2
          have g3 := H2.out.2.cell 3
          have g4 := H2.out.2.cell 4
          have g5 := H2.out.2.cell 5
          simp only [List.getElem?_toArray, List.getElem?_cons_succ, List.getElem?_cons_zero] at g0 g1 g2 g3 g4 g5
          go_wp2_with fail
          refine (HP.out.2.1 w2 H2.out.1.rb).mono ?_
          rintro e w3 hd
          obtain ⟨S2', rfl, hR3, ht3, hi3⟩ := hd.into
          have H3 := Lib.hid (And.intro (H2.out.1.rr hR3 ht3) (H2.out.1.boxR ht3 H2.out.2 (by decide) (by decide) (by decide)))
          try clear hd
          clear hR3 ht3 hi3 g0 g1 g2 g3 g4 g5
          have g0 := H3.out.2.cell 0
          have g1 := H3.out.2.cell 1
          have g2 := H3.out.2.cell 2
          have g3 := H3.out.2.cell 3
          have g4 := H3.out.2.cell 4
          have g5 := H3.out.2.cell 5
          simp only [List.getElem?_toArray, List.getElem?_cons_succ, List.getElem?_cons_zero] at g0 g1 g2 g3 g4 g5
          have hsa := same_any_ X (X + 1) r r S' S2' T' R' x w3 H3.out.1.tb H3.out.1.rb HP.out.2.2.1 HT.out.2.2.2.1
          rw [hq0] at hsa
          go_wp2_with fail
          refine hsa.mono ?_
          rintro e wz ⟨rfl, hbz⟩
          have HZ := Lib.hid hbz
          clear hbz hsa g0 g1 g2 g3 g4 g5
          go_wp2_with fail
          go_roundw
          case measure => simp [intOf]; omega
          exact ⟨k + 1, by omega, by omega, by simp, S', S2', T', R', H3.out.1.b HZ.out, HP.out.2.2.1, HP.out.2.2.2⟩
        have kd0 : (x.kind == 0) = false := by simp [hq0]
        by_cases hq1 : x.kind = 1
        · rw [hq1] at c0
          obtain ⟨wA, hwA⟩ : ∃ wA, wr.alloc (.cells #[.int .i64 1, .int .i64 x.conn, .int .i64 x.slot, .int .i64 x.h, .int .i64 x.user, .bool x.rw] 32) = wA := ⟨_, rfl⟩
          obtain ⟨Z, hZ⟩ : ∃ Z, wr.heap.size = Z := ⟨_, rfl⟩
          have bA : Blk wA Z 32 #[.int .i64 1, .int .i64 x.conn, .int .i64 x.slot, .int .i64 x.h, .int .i64 x.user, .bool x.rw] := by rw [← hwA, ← hZ]; exact Blk.new _ _ _
          have hbA : Below wr.heap.size wr wA := by rw [← hwA]; exact (Below.refl _ _).alloc (Nat.le_refl _) _
          have g0 := bA.cell 0
          have g1 := bA.cell 1
          have g2 := bA.cell 2
          have g3 := bA.cell 3
          have g4 := bA.cell 4
          have g5 := bA.cell 5
          simp only [List.getElem?_toArray, List.getElem?_cons_succ, List.getElem?_cons_zero] at g0 g1 g2 g3 g4 g5
          have HA := Lib.hid (And.intro (HT.out.1.b hbA) bA)
          clear bA hbA
          have ho := closeW_any X (X + 1) S T x.conn x.h wA HA.out.1.tb
          have hro := fun (w2 : World) (hh : Rb w2 r r S2 R) => rclose_any r r S2 R x.conn x.h w2 hh
          have hrl := HT.out.2.1.close1 x.conn x.h
          have er1 : (R.closeW x.conn x.h).1 = (T.closeW x.conn x.h).1 := hrl.1
          simp only [er1] at hro
          have hrel2 := hrl.2
          have hbd2 := HT.out.2.2.1.close1 x.conn x.h
          clear er1 hrl
          generalize (T.closeW x.conn x.h).1 = v1 at ho hro
          generalize (T.closeW x.conn x.h).2 = T' at ho hrel2 hbd2
          generalize (R.closeW x.conn x.h).2 = R' at hro hrel2 hbd2
          have HP := Lib.hid (And.intro ho (And.intro hro (And.intro hrel2 hbd2)))
          clear ho hro hrel2 hbd2
          go_wp2_with fail
          try rw [hwA]
          try rw [hZ]
          try clear hwA
          try clear hZ
          refine HP.out.1.mono ?_
          rintro e w2 hd
          obtain ⟨S', rfl, hT2, ht2, hi2⟩ := hd.into
          have H2 := Lib.hid (And.intro (HA.out.1.tt hT2 ht2) (HA.out.1.boxT ht2 HA.out.2 (by decide) (by decide)))
          try clear hd
          clear hT2 ht2 hi2 g0 g1 g2 g3 g4 g5 c0 c1 c2 c3 c4 c5
          have g0 := H2.out.2.cell 0
          have g1 := H2.out.2.cell 1
          have g2 := H2.out.2.cell 2
          have g3 := H2.out.2.cell 3
          have g4 := H2.out.2.cell 4
          have g5 := H2.out.2.cell 5
          simp only [List.getElem?_toArray, List.getElem?_cons_succ, List.getElem?_cons_zero] at g0 g1 g2 g3 g4 g5
          go_wp2_with fail
          refine (HP.out.2.1 w2 H2.out.1.rb).mono ?_
          rintro e w3 hd
          obtain ⟨S2', rfl, hR3, ht3, hi3⟩ := hd.into
          have H3 := Lib.hid (And.intro (H2.out.1.rr hR3 ht3) (H2.out.1.boxR ht3 H2.out.2 (by decide) (by decide) (by decide)))
          try clear hd
          clear hR3 ht3 hi3 g0 g1 g2 g3 g4 g5
          have g0 := H3.out.2.cell 0
          have g1 := H3.out.2.cell 1
          have g2 := H3.out.2.cell 2
          have g3 := H3.out.2.cell 3
          have g4 := H3.out.2.cell 4
          have g5 := H3.out.2.cell 5
          simp only [List.getElem?_toArray, List.getElem?_cons_succ, List.getElem?_cons_zero] at g0 g1 g2 g3 g4 g5
          have hsa := same_any_ X (X + 1) r r S' S2' T' R' x w3 H3.out.1.tb H3.out.1.rb HP.out.2.2.1 HT.out.2.2.2.1
          rw [hq1] at hsa
          go_wp2_with fail
          refine hsa.mono ?_
          rintro e wz ⟨rfl, hbz⟩
          have HZ := Lib.hid hbz
          clear hbz hsa g0 g1 g2 g3 g4 g5
          go_wp2_with fail
          go_roundw
          case measure => simp [intOf]; omega
          exact ⟨k + 1, by omega, by omega, by simp, S', S2', T', R', H3.out.1.b HZ.out, HP.out.2.2.1, HP.out.2.2.2⟩
        have kd1 : (x.kind == 1) = false := by simp [hq1]
        by_cases hq2 : x.kind = 2
        · rw [hq2] at c0
          by_cases hs0 : x.slot < 0
          · have hsd : decide (x.slot < 0) = true := decide_eq_true hs0
            obtain ⟨wA, hwA⟩ : ∃ wA, wr.alloc (.cells #[.int .i64 2, .int .i64 x.conn, .int .i64 x.slot, .int .i64 x.h, .int .i64 x.user, .bool x.rw] 32) = wA := ⟨_, rfl⟩
            obtain ⟨Z, hZ⟩ : ∃ Z, wr.heap.size = Z := ⟨_, rfl⟩
            have bA : Blk wA Z 32 #[.int .i64 2, .int .i64 x.conn, .int .i64 x.slot, .int .i64 x.h, .int .i64 x.user, .bool x.rw] := by rw [← hwA, ← hZ]; exact Blk.new _ _ _
            have hbA : Below wr.heap.size wr wA := by rw [← hwA]; exact (Below.refl _ _).alloc (Nat.le_refl _) _
            have g0 := bA.cell 0
            have g1 := bA.cell 1
            have g2 := bA.cell 2
            have g3 := bA.cell 3
            have g4 := bA.cell 4
            have g5 := bA.cell 5
            simp only [List.getElem?_toArray, List.getElem?_cons_succ, List.getElem?_cons_zero] at g0 g1 g2 g3 g4 g5
            have HA := Lib.hid (And.intro (HT.out.1.b hbA) bA)
            clear bA hbA
            go_wp2_with fail
            try rw [hwA]
            go_roundw
            case measure => simp [intOf]; omega
            exact ⟨k + 1, by omega, by omega, by simp, S, S2, T, R, HA.out.1, HT.out.2.1, HT.out.2.2.1.more⟩
          · have hsd : decide (x.slot < 0) = false := decide_eq_false hs0
            obtain ⟨wA, hwA⟩ : ∃ wA, wr.alloc (.cells #[.int .i64 2, .int .i64 x.conn, .int .i64 x.slot, .int .i64 x.h, .int .i64 x.user, .bool x.rw] 32) = wA := ⟨_, rfl⟩
            obtain ⟨Z, hZ⟩ : ∃ Z, wr.heap.size = Z := ⟨_, rfl⟩
            have bA : Blk wA Z 32 #[.int .i64 2, .int .i64 x.conn, .int .i64 x.slot, .int .i64 x.h, .int .i64 x.user, .bool x.rw] := by rw [← hwA, ← hZ]; exact Blk.new _ _ _
            have hbA : Below wr.heap.size wr wA := by rw [← hwA]; exact (Below.refl _ _).alloc (Nat.le_refl _) _
            have g0 := bA.cell 0
            have g1 := bA.cell 1
            have g2 := bA.cell 2
            have g3 := bA.cell 3
            have g4 := bA.cell 4
            have g5 := bA.cell 5
            simp only [List.getElem?_toArray, List.getElem?_cons_succ, List.getElem?_cons_zero] at g0 g1 g2 g3 g4 g5
            have HA := Lib.hid (And.intro (HT.out.1.b hbA) bA)
            clear bA hbA
            have ho := closeAll_any X (X + 1) S T x.conn x.slot wA HA.out.1.tb
            have hro := fun (w2 : World) (hh : Rb w2 r r S2 R) => rcloseAll_any r r S2 R x.conn x.slot w2 hh
            have hrl := HT.out.2.1.gone x.conn x.slot hs0
            simp only [hrl.1] at hro
            have hrel2 := hrl.2
            have hbd2 := HT.out.2.2.1.shut (fun y => decide (y.c = x.conn ∧ y.s = x.slot)) (rcloseAll_len R x.conn x.slot)
            clear hrl
            have hgl : ((T.l.filter (fun y => decide (y.c = x.conn ∧ y.s = x.slot))).map PS.h).length ≤ 100000 := by rw [List.length_map]; exact Nat.le_trans (List.length_filter_le _ _) (by have := HT.out.2.2.2.2; omega)
            generalize ((T.l.filter (fun y => decide (y.c = x.conn ∧ y.s = x.slot))).map PS.h) = ll at ho hro hgl
            generalize (T.closed fun y => decide (y.c = x.conn ∧ y.s = x.slot)) = T' at ho hrel2 hbd2
            generalize (R.closeAllW x.conn x.slot).2 = R' at hro hrel2 hbd2
            have HP := Lib.hid (And.intro ho (And.intro hro (And.intro hrel2 (And.intro hbd2 hgl))))
            clear ho hro hrel2 hbd2 hgl
            go_wp2_with fail
            try rw [hwA]
            try rw [hZ]
            try clear hwA
            try clear hZ
            refine HP.out.1.mono ?_
            rintro e w2 ⟨A9, n9, c9, S', rfl, ho9, hT2, ht2, hi2⟩
            have H2 := Lib.hid (And.intro (HA.out.1.tt hT2 ht2) (And.intro (HA.out.1.boxT ht2 HA.out.2 (by decide) (by decide)) ho9))
            clear hT2 ht2 hi2 ho9 g0 g1 g2 g3 g4 g5 c0 c1 c2 c3 c4 c5
            have g0 := H2.out.2.1.cell 0
            have g1 := H2.out.2.1.cell 1
            have g2 := H2.out.2.1.cell 2
            have g3 := H2.out.2.1.cell 3
            have g4 := H2.out.2.1.cell 4
            have g5 := H2.out.2.1.cell 5
            simp only [List.getElem?_toArray, List.getElem?_cons_succ, List.getElem?_cons_zero] at g0 g1 g2 g3 g4 g5
            go_wp2_with fail
            refine (HP.out.2.1 w2 H2.out.1.rb).mono ?_
            rintro e w3 ⟨A8, n8, c8, S2', rfl, ho8, hR3, ht3, hi3⟩
            have H3 := Lib.hid (And.intro (H2.out.1.rr hR3 ht3) (And.intro (H2.out.1.boxR ht3 H2.out.2.1 (by decide) (by decide) (by decide)) (And.intro (H2.out.2.2.turn ht3 (H2.out.1.rb.notI H2.out.2.2)) ho8)))
            clear hR3 ht3 hi3 ho8 g0 g1 g2 g3 g4 g5
            have hli := lists_any A9 n9 c9 A8 n8 c8 ll w3 H3.out.2.2.1.rd H3.out.2.2.2.rd HP.out.2.2.2.2
            go_wp2_with fail
            refine hli.mono ?_
            rintro e w5 ⟨rfl, hb5⟩
            have H5 := Lib.hid (And.intro (H3.out.1.b hb5) (H3.out.2.1.below hb5))
            clear hb5 hli
            have g0 := H5.out.2.cell 0
            have g1 := H5.out.2.cell 1
            have g2 := H5.out.2.cell 2
            have g3 := H5.out.2.cell 3
            have g4 := H5.out.2.cell 4
            have g5 := H5.out.2.cell 5
            simp only [List.getElem?_toArray, List.getElem?_cons_succ, List.getElem?_cons_zero] at g0 g1 g2 g3 g4 g5
            have hsa := same_any_ X (X + 1) r r S' S2' T' R' x w5 H5.out.1.tb H5.out.1.rb HP.out.2.2.1 HT.out.2.2.2.1
            rw [hq2] at hsa
            go_wp2_with fail
            refine hsa.mono ?_
            rintro e wz ⟨rfl, hbz⟩
            have HZ := Lib.hid hbz
            clear hbz hsa g0 g1 g2 g3 g4 g5
            go_wp2_with fail
            go_roundw
            case measure => simp [intOf]; omega
            exact ⟨k + 1, by omega, by omega, by simp, S', S2', T', R', H5.out.1.b HZ.out, HP.out.2.2.1, HP.out.2.2.2.1⟩
        have kd2 : (x.kind == 2) = false := by simp [hq2]
        by_cases hq3 : x.kind = 3
        · rw [hq3] at c0
          obtain ⟨wA, hwA⟩ : ∃ wA, wr.alloc (.cells #[.int .i64 3, .int .i64 x.conn, .int .i64 x.slot, .int .i64 x.h, .int .i64 x.user, .bool x.rw] 32) = wA := ⟨_, rfl⟩
          obtain ⟨Z, hZ⟩ : ∃ Z, wr.heap.size = Z := ⟨_, rfl⟩
          have bA : Blk wA Z 32 #[.int .i64 3, .int .i64 x.conn, .int .i64 x.slot, .int .i64 x.h, .int .i64 x.user, .bool x.rw] := by rw [← hwA, ← hZ]; exact Blk.new _ _ _
          have hbA : Below wr.heap.size wr wA := by rw [← hwA]; exact (Below.refl _ _).alloc (Nat.le_refl _) _
          have g0 := bA.cell 0
          have g1 := bA.cell 1
          have g2 := bA.cell 2
          have g3 := bA.cell 3
          have g4 := bA.cell 4
          have g5 := bA.cell 5
          simp only [List.getElem?_toArray, List.getElem?_cons_succ, List.getElem?_cons_zero] at g0 g1 g2 g3 g4 g5
          have HA := Lib.hid (And.intro (HT.out.1.b hbA) bA)
          clear bA hbA
          have ho := drop_any X (X + 1) S T x.conn wA HA.out.1.tb
          have hro := fun (w2 : World) (hh : Rb w2 r r S2 R) => rcloseAll_any r r S2 R x.conn (-1) w2 hh
          have hrl := HT.out.2.1.drop x.conn
          simp only [hrl.1] at hro
          have hrel2 := hrl.2
          have hbd2 := HT.out.2.2.1.shut (fun y => decide (y.c = x.conn)) (rcloseAll_len R x.conn (-1))
          clear hrl
          have hgl : ((T.l.filter (fun y => decide (y.c = x.conn))).map PS.h).length ≤ 100000 := by rw [List.length_map]; exact Nat.le_trans (List.length_filter_le _ _) (by have := HT.out.2.2.2.2; omega)
          generalize ((T.l.filter (fun y => decide (y.c = x.conn))).map PS.h) = ll at ho hro hgl
          generalize (T.closed fun y => decide (y.c = x.conn)) = T' at ho hrel2 hbd2
          generalize (R.closeAllW x.conn (-1)).2 = R' at hro hrel2 hbd2
          have HP := Lib.hid (And.intro ho (And.intro hro (And.intro hrel2 (And.intro hbd2 hgl))))
          clear ho hro hrel2 hbd2 hgl
          go_wp2_with fail
          try rw [hwA]
          try rw [hZ]
          try clear hwA
          try clear hZ
          refine HP.out.1.mono ?_
          rintro e w2 ⟨A9, n9, c9, S', rfl, ho9, hT2, ht2, hi2⟩
          have H2 := Lib.hid (And.intro (HA.out.1.tt hT2 ht2) (And.intro (HA.out.1.boxT ht2 HA.out.2 (by decide) (by decide)) ho9))
          clear hT2 ht2 hi2 ho9 g0 g1 g2 g3 g4 g5 c0 c1 c2 c3 c4 c5
          have g0 := H2.out.2.1.cell 0
          have g1 := H2.out.2.1.cell 1
          have g2 := H2.out.2.1.cell 2
          have g3 := H2.out.2.1.cell 3
          have g4 := H2.out.2.1.cell 4
          have g5 := H2.out.2.1.cell 5
          simp only [List.getElem?_toArray, List.getElem?_cons_succ, List.getElem?_cons_zero] at g0 g1 g2 g3 g4 g5
          go_wp2_with fail
          refine (HP.out.2.1 w2 H2.out.1.rb).mono ?_
          rintro e w3 ⟨A8, n8, c8, S2', rfl, ho8, hR3, ht3, hi3⟩
          have H3 := Lib.hid (And.intro (H2.out.1.rr hR3 ht3) (And.intro (H2.out.1.boxR ht3 H2.out.2.1 (by decide) (by decide) (by decide)) (And.intro (H2.out.2.2.turn ht3 (H2.out.1.rb.notI H2.out.2.2)) ho8)))
          clear hR3 ht3 hi3 ho8 g0 g1 g2 g3 g4 g5
          have hli := lists_any A9 n9 c9 A8 n8 c8 ll w3 H3.out.2.2.1.rd H3.out.2.2.2.rd HP.out.2.2.2.2
          go_wp2_with fail
          refine hli.mono ?_
          rintro e w5 ⟨rfl, hb5⟩
          have H5 := Lib.hid (And.intro (H3.out.1.b hb5) (H3.out.2.1.below hb5))
          clear hb5 hli
          have g0 := H5.out.2.cell 0
          have g1 := H5.out.2.cell 1
          have g2 := H5.out.2.cell 2
          have g3 := H5.out.2.cell 3
          have g4 := H5.out.2.cell 4
          have g5 := H5.out.2.cell 5
          simp only [List.getElem?_toArray, List.getElem?_cons_succ, List.getElem?_cons_zero] at g0 g1 g2 g3 g4 g5
          have hsa := same_any_ X (X + 1) r r S' S2' T' R' x w5 H5.out.1.tb H5.out.1.rb HP.out.2.2.1 HT.out.2.2.2.1
          rw [hq3] at hsa
          go_wp2_with fail
          refine hsa.mono ?_
          rintro e wz ⟨rfl, hbz⟩
          have HZ := Lib.hid hbz
          clear hbz hsa g0 g1 g2 g3 g4 g5
          go_wp2_with fail
          go_roundw
          case measure => simp [intOf]; omega
          exact ⟨k + 1, by omega, by omega, by simp, S', S2', T', R', H5.out.1.b HZ.out, HP.out.2.2.1, HP.out.2.2.2.1⟩
        have kd3 : (x.kind == 3) = false := by simp [hq3]
        by_cases hq4 : x.kind = 4
        · rw [hq4] at c0
          obtain ⟨wA, hwA⟩ : ∃ wA, wr.alloc (.cells #[.int .i64 4, .int .i64 x.conn, .int .i64 x.slot, .int .i64 x.h, .int .i64 x.user, .bool x.rw] 32) = wA := ⟨_, rfl⟩
          obtain ⟨Z, hZ⟩ : ∃ Z, wr.heap.size = Z := ⟨_, rfl⟩
          have bA : Blk wA Z 32 #[.int .i64 4, .int .i64 x.conn, .int .i64 x.slot, .int .i64 x.h, .int .i64 x.user, .bool x.rw] := by rw [← hwA, ← hZ]; exact Blk.new _ _ _
          have hbA : Below wr.heap.size wr wA := by rw [← hwA]; exact (Below.refl _ _).alloc (Nat.le_refl _) _
          have g0 := bA.cell 0
          have g1 := bA.cell 1
          have g2 := bA.cell 2
          have g3 := bA.cell 3
          have g4 := bA.cell 4
          have g5 := bA.cell 5
          simp only [List.getElem?_toArray, List.getElem?_cons_succ, List.getElem?_cons_zero] at g0 g1 g2 g3 g4 g5
          have HA := Lib.hid (And.intro (HT.out.1.b hbA) bA)
          clear bA hbA
          have ho := login_any X (X + 1) S T x.conn x.slot x.user wA HA.out.1.tb HT.out.2.2.2.1.2.1 HT.out.2.2.2.1.2.2.1 HT.out.2.2.2.1.2.2.2.2 (by have := HT.out.2.2.1.n; omega)
          have hro := fun (w2 : World) (hh : Rb w2 r r S2 R) => rlogin_any r r S2 R x.conn x.slot x.user w2 hh (by have := HT.out.2.2.1.who; omega)
          have hrl := (And.intro (HT.out.2.1.may x.conn x.slot x.user) (HT.out.2.1.loggedin x.conn x.slot x.user))
          have er1 : (R.mayW x.conn x.slot x.user) = (T.mayW x.conn x.slot x.user) := hrl.1
          simp only [er1] at hro
          have hrel2 := hrl.2
          have hbd2 := HT.out.2.2.1.loggedin x.conn x.slot x.user
          clear er1 hrl
          generalize (T.mayW x.conn x.slot x.user) = v1 at ho hro
          generalize (T.loginW x.conn x.slot x.user) = T' at ho hrel2 hbd2
          generalize (R.loginW x.conn x.slot x.user) = R' at hro hrel2 hbd2
          have HP := Lib.hid (And.intro ho (And.intro hro (And.intro hrel2 hbd2)))
          clear ho hro hrel2 hbd2
          go_wp2_with fail
          try rw [hwA]
          try rw [hZ]
          try clear hwA
          try clear hZ
          refine HP.out.1.mono ?_
          rintro e w2 hd
          obtain ⟨S', rfl, hT2, ht2, hi2⟩ := hd.into
          have H2 := Lib.hid (And.intro (HA.out.1.tt hT2 ht2) (HA.out.1.boxT ht2 HA.out.2 (by decide) (by decide)))
          try clear hd
          clear hT2 ht2 hi2 g0 g1 g2 g3 g4 g5 c0 c1 c2 c3 c4 c5
          have g0 := H2.out.2.cell 0
          have g1 := H2.out.2.cell 1
          have g2 := H2.out.2.cell 2
          have g3 := H2.out.2.cell 3
          have g4 := H2.out.2.cell 4
          have g5 := H2.out.2.cell 5
          simp only [List.getElem?_toArray, List.getElem?_cons_succ, List.getElem?_cons_zero] at g0 g1 g2 g3 g4 g5
          go_wp2_with fail
          refine (HP.out.2.1 w2 H2.out.1.rb).mono ?_
          rintro e w3 hd
          obtain ⟨S2', rfl, hR3, ht3, hi3⟩ := hd.into
          have H3 := Lib.hid (And.intro (H2.out.1.rr hR3 ht3) (H2.out.1.boxR ht3 H2.out.2 (by decide) (by decide) (by decide)))
          try clear hd
          clear hR3 ht3 hi3 g0 g1 g2 g3 g4 g5
          have g0 := H3.out.2.cell 0
          have g1 := H3.out.2.cell 1
          have g2 := H3.out.2.cell 2
          have g3 := H3.out.2.cell 3
          have g4 := H3.out.2.cell 4
          have g5 := H3.out.2.cell 5
          simp only [List.getElem?_toArray, List.getElem?_cons_succ, List.getElem?_cons_zero] at g0 g1 g2 g3 g4 g5
          have hsa := same_any_ X (X + 1) r r S' S2' T' R' x w3 H3.out.1.tb H3.out.1.rb HP.out.2.2.1 HT.out.2.2.2.1
          rw [hq4] at hsa
          go_wp2_with fail
          refine hsa.mono ?_
          rintro e wz ⟨rfl, hbz⟩
          have HZ := Lib.hid hbz
          clear hbz hsa g0 g1 g2 g3 g4 g5
          go_wp2_with fail
          go_roundw
          case measure => simp [intOf]; omega
          exact ⟨k + 1, by omega, by omega, by simp, S', S2', T', R', H3.out.1.b HZ.out, HP.out.2.2.1, HP.out.2.2.2⟩
        have kd4 : (x.kind == 4) = false := by simp [hq4]
        obtain ⟨wA, hwA⟩ : ∃ wA, wr.alloc (.cells #[.int .i64 x.kind, .int .i64 x.conn, .int .i64 x.slot, .int .i64 x.h, .int .i64 x.user, .bool x.rw] 32) = wA := ⟨_, rfl⟩
        obtain ⟨Z, hZ⟩ : ∃ Z, wr.heap.size = Z := ⟨_, rfl⟩
        have bA : Blk wA Z 32 #[.int .i64 x.kind, .int .i64 x.conn, .int .i64 x.slot, .int .i64 x.h, .int .i64 x.user, .bool x.rw] := by rw [← hwA, ← hZ]; exact Blk.new _ _ _
        have hbA : Below wr.heap.size wr wA := by rw [← hwA]; exact (Below.refl _ _).alloc (Nat.le_refl _) _
        have g0 := bA.cell 0
        have g1 := bA.cell 1
        have g2 := bA.cell 2
        have g3 := bA.cell 3
        have g4 := bA.cell 4
        have g5 := bA.cell 5
        simp only [List.getElem?_toArray, List.getElem?_cons_succ, List.getElem?_cons_zero] at g0 g1 g2 g3 g4 g5
        have HA := Lib.hid (And.intro (HT.out.1.b hbA) bA)
        clear bA hbA
        have ho := logout_any X (X + 1) S T x.conn x.slot wA HA.out.1.tb HT.out.2.2.2.1.2.1 HT.out.2.2.2.1.2.2.1
        have hro := fun (w2 : World) (hh : Rb w2 r r S2 R) => rlogout_any r r S2 R x.conn x.slot w2 hh
        have hrl := HT.out.2.1.loggedout x.conn x.slot
        have er1 : (R.logoutW x.conn x.slot).1 = (T.logoutW x.conn x.slot).1 := hrl.1
        simp only [er1] at hro
        have hrel2 := hrl.2
        have hbd2 := HT.out.2.2.1.loggedout x.conn x.slot
        clear er1 hrl
        generalize (T.logoutW x.conn x.slot).1 = v1 at ho hro
        generalize (T.logoutW x.conn x.slot).2 = T' at ho hrel2 hbd2
        generalize (R.logoutW x.conn x.slot).2 = R' at hro hrel2 hbd2
        have HP := Lib.hid (And.intro ho (And.intro hro (And.intro hrel2 hbd2)))
        clear ho hro hrel2 hbd2
        go_wp2_with fail
        try rw [hwA]
        try rw [hZ]
        try clear hwA
        try clear hZ
        refine HP.out.1.mono ?_
        rintro e w2 hd
        obtain ⟨S', rfl, hT2, ht2, hi2⟩ := hd.into
        have H2 := Lib.hid (And.intro (HA.out.1.tt hT2 ht2) (HA.out.1.boxT ht2 HA.out.2 (by decide) (by decide)))
        try clear hd
        clear hT2 ht2 hi2 g0 g1 g2 g3 g4 g5 c0 c1 c2 c3 c4 c5
        have g0 := H2.out.2.cell 0
        have g1 := H2.out.2.cell 1
        have g2 := H2.out.2.cell 2
        have g3 := H2.out.2.cell 3
        have g4 := H2.out.2.cell 4
        have g5 := H2.out.2.cell 5
        simp only [List.getElem?_toArray, List.getElem?_cons_succ, List.getElem?_cons_zero] at g0 g1 g2 g3 g4 g5
        go_wp2_with fail
        refine (HP.out.2.1 w2 H2.out.1.rb).mono ?_
        rintro e w3 hd
        obtain ⟨S2', rfl, hR3, ht3, hi3⟩ := hd.into
        have H3 := Lib.hid (And.intro (H2.out.1.rr hR3 ht3) (H2.out.1.boxR ht3 H2.out.2 (by decide) (by decide) (by decide)))
        try clear hd
        clear hR3 ht3 hi3 g0 g1 g2 g3 g4 g5
        have g0 := H3.out.2.cell 0
        have g1 := H3.out.2.cell 1
        have g2 := H3.out.2.cell 2
        have g3 := H3.out.2.cell 3
        have g4 := H3.out.2.cell 4
        have g5 := H3.out.2.cell 5
        simp only [List.getElem?_toArray, List.getElem?_cons_succ, List.getElem?_cons_zero] at g0 g1 g2 g3 g4 g5
        have hsa := same_any_ X (X + 1) r r S' S2' T' R' x w3 H3.out.1.tb H3.out.1.rb HP.out.2.2.1 HT.out.2.2.2.1
        go_wp2_with fail
        refine hsa.mono ?_
        rintro e wz ⟨rfl, hbz⟩
        have HZ := Lib.hid hbz
        clear hbz hsa g0 g1 g2 g3 g4 g5
        go_wp2_with fail
        go_roundw
        case measure => simp [intOf]; omega
        exact ⟨k + 1, by omega, by omega, by simp, S', S2', T', R', H3.out.1.b HZ.out, HP.out.2.2.1, HP.out.2.2.2⟩
      · have h50d : decide ((k : Int) < 50) = false := decide_eq_false (by omega)
        have h50i : ¬ (k : Int) < 50 := by omega
        have HB := Lib.hid hal.bel
        clear hal hrl hbd
        go_wp2_with fail
        go_ret
        exact ⟨rfl, HB.out⟩
    · have hltd : decide ((k : Int) < (m : Int)) = false := decide_eq_false (by omega)
      have hlti : ¬ (k : Int) < (m : Int) := by omega
      have HB := Lib.hid hal.bel
      clear hal hrl hbd
      go_wp2_with fail
      go_ret
      exact ⟨rfl, HB.out⟩
end Go.Proofs.Ytnpncbpbeikcaaa
