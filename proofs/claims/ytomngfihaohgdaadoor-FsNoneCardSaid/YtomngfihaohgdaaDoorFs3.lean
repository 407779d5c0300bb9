/-
  blockfs: Read, Format.
-/
import Derived.Test.YtomngfihaohgdaaDoorFs2
namespace Go.Proofs.YtomngfihaohgdaaDoor
set_option maxRecDepth 100000
open Go.RowKit

theorem volread_out (v d B c : Nat) (br : Bool) (w : World) (h : VolB w v d B c br) (i : Int) (hi : i < 0 ∨ (B : Int) ≤ i) :
    Calls Tryd.prog 19 #[.pointer (some ⟨v, 0, none⟩), .int .i64 i] w fun e w' => e = .returned (.slice none 0 0) ∧ w = w' := by
  have hb := blocks_any v d B c br w h
  clear h
  by_cases h0 : i < 0
  · have t1 : decide (i < 0) = true := decide_eq_true h0
    go_enter Tryd.func19, Tryd.ntmps19
    go_wp2_with fail
    go_ret
    exact ⟨rfl, rfl⟩
  · have t1 : decide (i < 0) = false := decide_eq_false h0
    have hi2 : (B : Int) ≤ i := hi.resolve_left h0
    have t2 : decide ((B : Int) ≤ i) = true := decide_eq_true hi2
    go_enter Tryd.func19, Tryd.ntmps19
    go_wp2_with fail
    refine hb.mono ?_
    rintro e w' ⟨rfl, rfl⟩
    go_wp2_with fail
    go_ret
    exact ⟨rfl, rfl⟩
theorem volread_nil (w : World) (i : Int) (hi : 0 ≤ i) :
    Calls Tryd.prog 19 #[.pointer none, .int .i64 i] w fun e w' => e = .returned (.slice none 0 0) ∧ w = w' := by
  have hb := blocks_nil w
  have h0 : ¬ i < 0 := by omega
  have t1 : decide (i < 0) = false := decide_eq_false h0
  have t2 : decide (0 ≤ i) = true := decide_eq_true hi
  go_enter Tryd.func19, Tryd.ntmps19
  go_wp2_with fail
  refine hb.mono ?_
  rintro e w' ⟨rfl, rfl⟩
  go_wp2_with fail
  go_ret
  exact ⟨rfl, rfl⟩
theorem volread_any (v d L B c : Nat) (br : Bool) (s : Dsk) (w : World) (h : VolB w v d B c br) (hD : DkAt w d L s) (hB : B ≤ 1000) (hc : c ≤ 100000) (hn : 8 + c % 2 * B + B ≤ s.n) (i : Nat) (hi : i < B) :
    Calls Tryd.prog 19 #[.pointer (some ⟨v, 0, none⟩), .int .i64 (i : Int)] w fun e w' =>
      ∃ g c', e = .returned (.slice (some ⟨g, 0, none⟩) 256 c') ∧ Own w' w.heap.size (.slice (some ⟨g, 0, none⟩) 256 c') (s.rd (8 + c % 2 * B + i)) ∧ (s.rd (8 + c % 2 * B + i)).length = 256 ∧ Below w.heap.size w w' := by
  have hb := blocks_any v d B c br w h
  have hcs := h.cells
  obtain ⟨q, hq⟩ : ∃ q, 8 + c % 2 * B + i = q := ⟨_, rfl⟩
  have hqn : q < s.n := by omega
  have hsd : ∀ w, Calls Tryd.prog 32 #[.int .i64 (B : Int), .int .i64 (c : Int), .int .i64 (i : Int)] w fun e w' => e = .returned (.int .i64 (q : Int)) ∧ w = w' := fun w => by
    rw [← hq]; exact side_any B c i (by omega) (by omega) (by omega) w
  rw [hq]
  have HS := Lib.hid (And.intro hsd (And.intro hcs (And.intro hD hqn)))
  have h0 : ¬ (i : Int) < 0 := by omega
  have t1 : decide ((i : Int) < 0) = false := decide_eq_false h0
  have h2 : ¬ (B : Int) ≤ i := by omega
  have t2 : decide ((B : Int) ≤ (i : Int)) = false := decide_eq_false h2
  clear h hcs hsd hD hqn hq hn
  go_enter Tryd.func19, Tryd.ntmps19
  go_wp2_with fail
  refine hb.mono ?_
  rintro e w' ⟨rfl, rfl⟩
  clear hb
  go_wp2_with fail
  refine region_old (by kernel_rfl) (fun wd hHeld hSz => ?_)
  have HSz := Lib.hid hSz
  clear hSz
  refine takeL (i := 0) (v := ?_) rfl (by kernel_rfl) (by kernel_rfl) (by kernel_rfl) (fun _ _ _ h => h) (Or.inl ⟨by rfl, ?_⟩) hHeld ?_
  rotate_left
  focus (intro wq hSw; clear hSw; go_simp; try with_reducible rfl)
  try simp only [Act.put, List.setIfInBounds_toArray, List.set_cons_zero, List.set_cons_succ]
  refine takeL (i := 1) (v := ?_) rfl (by kernel_rfl) (by kernel_rfl) (by kernel_rfl) (fun _ _ _ h => h) (Or.inl ⟨by rfl, ?_⟩) hHeld ?_
  rotate_left
  focus (intro wq hSw; clear hSw; go_simp; try with_reducible rfl)
  try simp only [Act.put, List.setIfInBounds_toArray, List.set_cons_zero, List.set_cons_succ]
  refine takeL (i := 2) (v := ?_) rfl (by kernel_rfl) (by kernel_rfl) (by kernel_rfl) (fun _ _ _ h => h) (Or.inl ⟨by rfl, ?_⟩) hHeld ?_
  rotate_left
  focus (intro wq hSw; clear hSw; go_simp; try with_reducible rfl)
  try simp only [Act.put, List.setIfInBounds_toArray, List.set_cons_zero, List.set_cons_succ]
  refine takeL (i := 3) (v := ?_) rfl (by kernel_rfl) (by kernel_rfl) (by kernel_rfl) (fun _ _ _ h => h) (Or.inl ⟨by rfl, ?_⟩) hHeld ?_
  rotate_left
  focus (intro wq hSw; obtain ⟨k0, k1, k2, k3⟩ := HS.out.2.1; have e0 := cell_old hSw k0; have e1 := cell_old hSw k1; have e2 := cell_old hSw k2; clear k0 k1 k2 k3; clear hSw; go_simp; try with_reducible rfl)
  try simp only [Act.put, List.setIfInBounds_toArray, List.set_cons_zero, List.set_cons_succ]
  refine takeL (i := 4) (v := ?_) rfl (by kernel_rfl) (by kernel_rfl) (by kernel_rfl) (fun _ _ _ h => h) (Or.inl ⟨by rfl, ?_⟩) hHeld ?_
  rotate_left
  focus (intro wq hSw; clear hSw; go_simp; try with_reducible rfl)
  try simp only [Act.put, List.setIfInBounds_toArray, List.set_cons_zero, List.set_cons_succ]
  refine takeL (i := 5) (v := ?_) rfl (by kernel_rfl) (by kernel_rfl) (by kernel_rfl) (fun _ _ _ h => h) (Or.inl ⟨by rfl, ?_⟩) hHeld ?_
  rotate_left
  focus (intro wq hSw; clear hSw; go_simp; try with_reducible rfl)
  try simp only [Act.put, List.setIfInBounds_toArray, List.set_cons_zero, List.set_cons_succ]
  refine takeL (i := 6) (v := ?_) rfl (by kernel_rfl) (by kernel_rfl) (by kernel_rfl) (fun _ _ _ h => h) (Or.inl ⟨by rfl, ?_⟩) hHeld ?_
  rotate_left
  focus (intro wq hSw; clear hSw; go_simp; try with_reducible rfl)
  try simp only [Act.put, List.setIfInBounds_toArray, List.set_cons_zero, List.set_cons_succ]
  refine takeL (i := 7) (v := ?_) rfl (by kernel_rfl) (by kernel_rfl) (by kernel_rfl) (fun _ _ _ h => h) (Or.inl ⟨by rfl, ?_⟩) hHeld ?_
  rotate_left
  focus (intro wq hSw; obtain ⟨k0, k1, k2, k3⟩ := HS.out.2.1; have e0 := cell_old hSw k0; have e1 := cell_old hSw k1; have e2 := cell_old hSw k2; clear k0 k1 k2 k3; clear hSw; go_simp; try with_reducible rfl)
  try simp only [Act.put, List.setIfInBounds_toArray, List.set_cons_zero, List.set_cons_succ]
  refine takeL (i := 8) (v := ?_) rfl (by kernel_rfl) (by kernel_rfl) (by kernel_rfl) (fun _ _ _ h => h) (Or.inl ⟨by rfl, ?_⟩) hHeld ?_
  rotate_left
  focus (intro wq hSw; clear hSw; go_simp; try with_reducible rfl)
  try simp only [Act.put, List.setIfInBounds_toArray, List.set_cons_zero, List.set_cons_succ]
  refine takeL (i := 9) (v := ?_) rfl (by kernel_rfl) (by kernel_rfl) (by kernel_rfl) (fun _ _ _ h => h) (Or.inl ⟨by rfl, ?_⟩) hHeld ?_
  rotate_left
  focus (intro wq hSw; clear hSw; go_simp; try with_reducible rfl)
  try simp only [Act.put, List.setIfInBounds_toArray, List.set_cons_zero, List.set_cons_succ]
  refine takeL (i := 10) (v := ?_) rfl (by kernel_rfl) (by kernel_rfl) (by kernel_rfl) (fun _ _ _ h => h) (Or.inl ⟨by rfl, ?_⟩) hHeld ?_
  rotate_left
  focus (intro wq hSw; clear hSw; go_simp; try with_reducible rfl)
  try simp only [Act.put, List.setIfInBounds_toArray, List.set_cons_zero, List.set_cons_succ]
  refine takeL (i := 11) (v := ?_) rfl (by kernel_rfl) (by kernel_rfl) (by kernel_rfl) (fun _ _ _ h => h) (Or.inl ⟨by rfl, ?_⟩) hHeld ?_
  rotate_left
  focus (intro wq hSw; obtain ⟨k0, k1, k2, k3⟩ := HS.out.2.1; have e0 := cell_old hSw k0; have e1 := cell_old hSw k1; have e2 := cell_old hSw k2; clear k0 k1 k2 k3; clear hSw; go_simp; try with_reducible rfl)
  try simp only [Act.put, List.setIfInBounds_toArray, List.set_cons_zero, List.set_cons_succ]
  refine takeL (i := 12) (v := ?_) rfl (by kernel_rfl) (by kernel_rfl) (by kernel_rfl) (fun _ _ _ h => h) (Or.inl ⟨by rfl, ?_⟩) hHeld ?_
  rotate_left
  focus (intro wq hSw; clear hSw; go_simp; try with_reducible rfl)
  try simp only [Act.put, List.setIfInBounds_toArray, List.set_cons_zero, List.set_cons_succ]
  refine wpAnyH_ready (rs := [13]) (by kernel_rfl) (by simp) ?_
  refine consL rfl (fun K hK => ?_) AllReadyH.nil
  go_simp
  refine (HS.out.1 _).mono ?_
  rintro e w' ⟨rfl, rfl⟩
  refine hK.out _ _ (by repeat (first | exact hHeld | exact Old.refl _ | assumption | refine Old.drew ?_ | refine Old.drewN ?_ _ | refine Old.alloc ?_ _)) (fun hHeld => ?_)
  clear hK K
  try simp only [Act.put, List.setIfInBounds_toArray, List.set_cons_zero, List.set_cons_succ]
  refine wpAnyH_ready (rs := [14]) (by kernel_rfl) (by simp) ?_
  refine consL rfl (fun K hK => ?_) AllReadyH.nil
  go_simp
  refine (dkread_any d L s _ (HS.out.2.2.1.below hHeld) q HS.out.2.2.2).mono ?_
  rintro e w2 ⟨g2, c2, rfl, hO2, hl2, hb2⟩
  have HO2 := Lib.hid (And.intro (hO2.mono (base' := w.heap.size) hHeld.size) hl2)
  have hb2' := Old.trans hHeld hb2
  clear hO2 hl2
  refine hK.out _ _ hb2' (fun hHeld => ?_)
  clear hK K
  try simp only [Act.put, List.setIfInBounds_toArray, List.set_cons_zero, List.set_cons_succ]
  refine takeL (i := 15) (v := ?_) rfl (by kernel_rfl) (by kernel_rfl) (by kernel_rfl) (fun _ _ _ h => h) (Or.inl ⟨by rfl, ?_⟩) hHeld ?_
  rotate_left
  focus (intro wq hSw; clear hSw; go_simp; try with_reducible rfl)
  try simp only [Act.put, List.setIfInBounds_toArray, List.set_cons_zero, List.set_cons_succ]
  refine wpAnyH_done (by kernel_rfl) ?_ _
  refine NoPanic.normal ?_
  try simp only [Exit.then]
  have H9 := Lib.hid (And.intro HO2.out hHeld)
  clear hHeld
  go_wp2_with fail
  go_ret
  exact ⟨_, _, rfl, H9.out.1.1, H9.out.1.2, H9.out.2⟩
/-- A device of zeros is formatted. -/
def Dsk.fmt (s : Dsk) : Bool × Dsk :=
  if s.sy.1 = false then (false, s.sy.2) else if s.sy.2.sy.1 = false then (false, s.sy.2.sy.2)
  else if (s.sy.2.sy.2.wr 0 (headB 0)).1 = false then (false, (s.sy.2.sy.2.wr 0 (headB 0)).2) else (s.sy.2.sy.2.wr 0 (headB 0)).2.sy
theorem head0_ne : zs 256 ≠ headB 0 := by
  intro e
  have := congrArg (fun l => l.head?) e
  simp [headB, headA, magicB, zs] at this
theorem format_nil (w : World) : Calls Tryd.prog 16 #[.pointer none] w fun e w' => e = .returned (.int .i64 7) ∧ w = w' := by
  have h1 := refused_nil w
  go_enter Tryd.func16, Tryd.ntmps16
  go_wp2_with fail
  refine h1.mono ?_
  rintro e w' ⟨rfl, rfl⟩
  go_wp2_with fail
  go_ret
  exact ⟨rfl, rfl⟩
theorem format_no (d L : Nat) (s : Dsk) (w : World) (h : DkAt w d L s) (hn : s.n < 16) :
    Calls Tryd.prog 16 #[.pointer (some ⟨d, 0, none⟩)] w fun e w' => e = .returned (.int .i64 7) ∧ w = w' := by
  have h1 := refused_any d L s w h
  rw [if_pos hn] at h1
  go_enter Tryd.func16, Tryd.ntmps16
  go_wp2_with fail
  refine h1.mono ?_
  rintro e w' ⟨rfl, rfl⟩
  go_wp2_with fail
  go_ret
  exact ⟨rfl, rfl⟩
theorem format_dead (d L : Nat) (s : Dsk) (w : World) (h : DkAt w d L s) (hn : 16 ≤ s.n) (hd : s.dead = true) :
    Calls Tryd.prog 16 #[.pointer (some ⟨d, 0, none⟩)] w fun e w' => e = .returned (.int .i64 48) ∧ w = w' := by
  have h1 := refused_any d L s w h
  rw [if_neg (by omega), hd, if_pos rfl] at h1
  go_enter Tryd.func16, Tryd.ntmps16
  go_wp2_with fail
  refine h1.mono ?_
  rintro e w' ⟨rfl, rfl⟩
  go_wp2_with fail
  go_ret
  exact ⟨rfl, rfl⟩
theorem format_any (d L : Nat) (s : Dsk) (w : World) (h : DkAt w d L s) (hn : 16 ≤ s.n) (hn2 : s.n ≤ 1000) (hd : s.dead = false) (hf : FOk s 0) (hz : ∀ i, i < s.n → s.rd i = zs 256) (hK : KAt w) :
    Calls Tryd.prog 16 #[.pointer (some ⟨d, 0, none⟩)] w fun e w' => e = .returned (.int .i64 (if s.fmt.1 then 0 else 48)) ∧ DkAt w' d L s.fmt.2 ∧ Turn [d, L] w w' := by
  have h1 := refused_any d L s w h
  rw [if_neg (by omega), hd, if_neg (by decide)] at h1
  obtain ⟨qok, qs, hq⟩ : ∃ qok qs, s.fmt = (qok, qs) := ⟨_, _, rfl⟩
  rw [hq]
  unfold Dsk.fmt at hq
  simp only
  have hmk := Tryd.prog_make 256 (by decide) w
  rw [show ((256 : Nat) : Int) = 256 from rfl] at hmk
  obtain ⟨X, hX⟩ : ∃ X, w.heap.size = X := ⟨_, rfl⟩
  obtain ⟨w1, hw1⟩ : ∃ w1, w.alloc (.cells (madeCells #[.int .u8 0] 256) 5) = w1 := ⟨_, rfl⟩
  have hO := Own.made w 256 (by decide)
  have hb1 : Below w.heap.size w w1 := by rw [← hw1]; exact (Below.refl _ _).alloc (Nat.le_refl _) _
  rw [hw1, hX] at hO hmk
  have hs1 : w1.heap.size = X + 1 := by rw [← hw1, ← hX]; simp
  have H1 := Lib.hid (And.intro (h.below hb1) (And.intro hO (And.intro (Turn.of_below [d, L] hb1) (And.intro (hK.below hb1) (And.intro hz (And.intro hn hn2))))))
  have HQ := Lib.hid hq
  have hnb : (s.n : Int) ≤ 1000 := by omega
  have hwr : ∀ (i : Nat) (W : World), i < s.n → DkAt W d L s → Own W X (.slice (some ⟨X, 0, none⟩) 256 256) (zs 256) → Calls Tryd.prog 30 #[.pointer (some ⟨d, 0, none⟩), .int .i64 (i : Int), .slice (some ⟨X, 0, none⟩) 256 256] W fun e w' => e = .returned (.bool true) ∧ (DkAt w' d L s ∧ Own w' X (.slice (some ⟨X, 0, none⟩) 256 256) (zs 256)) ∧ Turn [d, L] W w' := fun i W hi hD hO' => by
    refine (wrote_any d L s W 0 hD hf (by omega) i hi X 0 256 (zs 256) hO'.at_ (by decide) ⟨Nat.le_refl _, by decide⟩).mono ?_
    rintro e w' ⟨he, h2, h3⟩
    have hw : s.wrote i (zs 256) = (true, s) := by unfold Dsk.wrote; rw [if_pos (hz i hi)]
    rw [hw] at he h2
    exact ⟨he, ⟨h2, hO'.turn h3 (hO'.beside hD)⟩, h3⟩
  have HW := Lib.hid hwr
  have hsec : ∀ W, DkAt W d L s → Calls Tryd.prog 29 #[.pointer (some ⟨d, 0, none⟩)] W fun e w' => e = .returned (.int .i64 (s.n : Int)) ∧ W = w' := fun W hD => by
    obtain ⟨xs, hx⟩ := hD
    exact sectors_any d L xs s W hx
  have HSec := Lib.hid hsec
  have HF := Lib.hid hf
  clear h hO hb1 hK hz hn hq hwr hsec hd hf
  go_enter Tryd.func16, Tryd.ntmps16
  go_wp2_with fail
  refine h1.mono ?_
  rintro e w' ⟨rfl, rfl⟩
  clear h1
  go_wp2_with fail
  try rw [hw1]
  try rw [hX]
  clear hmk hw1
  go_wp2_with fail
  go_loopw [14] (fun kk wr => ∃ i : Nat, i ≤ 2 ∧ kk = .int .i64 (i : Int) ∧ DkAt wr d L s ∧ Own wr X (.slice (some ⟨X, 0, none⟩) 256 256) (zs 256) ∧ Turn [d, L] w1 wr) (fun kk _ => 2 - (intOf kk).toNat)
  case atStart => exact ⟨0, by omega, rfl, H1.out.1, H1.out.2.1, Turn.refl _ _⟩
  case round =>
    obtain ⟨i, hi, rfl, hD, hO, hT⟩ := hrel
    by_cases hlt : i < 2
    · have hlti : (i : Int) < 2 := by omega
      have hltd : decide ((i : Int) < 2) = true := decide_eq_true hlti
      have hc := HW.out i wr (by have := H1.out.2.2.2.2.2.1; omega) hD hO
      have HT := Lib.hid hT
      clear hD hO hT
      go_wp2_with fail
      refine hc.mono ?_
      rintro e w2 ⟨rfl, ⟨hD, hO⟩, hT2⟩
      have H2 := Lib.hid (And.intro hD (And.intro hO (HT.out.trans hT2 (fun x hx => .inl hx))))
      clear hD hO hT2 hc
      go_wp2_with fail
      go_roundw
      case measure => simp [intOf]; omega
      exact ⟨i + 1, by omega, by simp, H2.out.1, H2.out.2.1, H2.out.2.2⟩
    · obtain rfl : i = 2 := by omega
      have HL := Lib.hid (And.intro hD (And.intro hO (And.intro hT (H1.out.2.2.2.1.beside H1.out.1 hT))))
      clear hD hO hT
      have hs := dksync_any d L s wr 0 HL.out.1 HF.out (by omega)
      have f1 := sy_fok HF.out
      have n1 := (sy_did s).n
      have r1 := fun j => sy_rd (s := s) (j := j)
      obtain ⟨ok1, s1, hr1⟩ : ∃ ok1 s1, s.sy = (ok1, s1) := ⟨_, _, rfl⟩
      rw [hr1] at hs f1 n1 r1
      have hq := HQ.out
      rw [hr1] at hq
      simp only at hs f1 n1 r1 hq
      have HQ := Lib.hid hq
      have HR1 := Lib.hid (And.intro f1 (And.intro n1 r1))
      clear hq hr1 f1 n1 r1
      go_wp2_with fail
      refine hs.mono ?_
      rintro e w3 ⟨rfl, hD3, hT3⟩
      have H3 := Lib.hid (And.intro hD3 (And.intro (HL.out.2.1.turn hT3 (HL.out.2.1.beside HL.out.1)) (And.intro (HL.out.2.2.1.trans hT3 (fun x hx => .inl hx)) (HL.out.2.2.2.beside HL.out.1 hT3))))
      clear hD3 hT3 hs
      cases ok1 with
      | false =>
        have hq := HQ.out
        rw [if_pos rfl] at hq
        injection hq with e1 e2
        subst e1 e2
        go_wp2_with fail
        go_ret
        exact ⟨rfl, H3.out.1, H1.out.2.2.1.trans H3.out.2.2.1 (fun x hx => .inl hx)⟩
      | true =>
        have hq := HQ.out
        simp only [Bool.true_eq_false, if_false] at hq
        have HQ := Lib.hid hq
        clear hq
        have hz1 : ∀ i, i < s1.n → s1.rd i = zs 256 := fun i hi => by rw [HR1.out.2.2]; exact H1.out.2.2.2.2.1 i (by rw [← HR1.out.2.1]; exact hi)
        have hwr1 : ∀ (i : Nat) (W : World), i < s1.n → DkAt W d L s1 → Own W X (.slice (some ⟨X, 0, none⟩) 256 256) (zs 256) → Calls Tryd.prog 30 #[.pointer (some ⟨d, 0, none⟩), .int .i64 (i : Int), .slice (some ⟨X, 0, none⟩) 256 256] W fun e w' => e = .returned (.bool true) ∧ (DkAt w' d L s1 ∧ Own w' X (.slice (some ⟨X, 0, none⟩) 256 256) (zs 256)) ∧ Turn [d, L] W w' := fun i W hi hD hO' => by
          refine (wrote_any d L s1 W 1 hD HR1.out.1 (by omega) i hi X 0 256 (zs 256) hO'.at_ (by decide) ⟨Nat.le_refl _, by decide⟩).mono ?_
          rintro e w' ⟨he, h2, h3⟩
          have hw : s1.wrote i (zs 256) = (true, s1) := by unfold Dsk.wrote; rw [if_pos (hz1 i hi)]
          rw [hw] at he h2
          exact ⟨he, ⟨h2, hO'.turn h3 (hO'.beside hD)⟩, h3⟩
        have hsc : Calls Tryd.prog 29 #[.pointer (some ⟨d, 0, none⟩)] w3 fun e w' => e = .returned (.int .i64 (s.n : Int)) ∧ w3 = w' := by
          obtain ⟨xs, hx⟩ := H3.out.1
          have := sectors_any d L xs s1 w3 hx
          rw [show s1.secs.length = s.n from HR1.out.2.1] at this
          exact this
        obtain ⟨B, hB⟩ : ∃ B, (s.n - 8) / 2 = B := ⟨_, rfl⟩
        have hn16 := H1.out.2.2.2.2.2.1
        have hBi : ((s.n : Int) - 8).tdiv 2 = (B : Int) := by rw [Int.tdiv_eq_ediv_of_nonneg (by omega)]; omega
        have hBn : 8 + B ≤ s1.n := by have := HR1.out.2.1; omega
        have hBb : B ≤ 500 := by omega
        have HW1 := Lib.hid (And.intro hwr1 (And.intro hBn hB))
        clear hwr1 hz1 hBn hB hn16
        go_wp2_with fail
        refine hsc.mono ?_
        rintro e w' ⟨rfl, rfl⟩
        clear hsc
        go_wp2_with fail
        obtain ⟨wl, hwl⟩ : ∃ wl, wl = w3 := ⟨_, rfl⟩
        subst hwl
        go_loopw [31] (fun kk wr => ∃ i : Nat, i ≤ B ∧ kk = .int .i64 (i : Int) ∧ DkAt wr d L s1 ∧ Own wr X (.slice (some ⟨X, 0, none⟩) 256 256) (zs 256) ∧ Turn [d, L] wl wr) (fun kk _ => B - (intOf kk).toNat)
        case atStart => exact ⟨0, by omega, rfl, H3.out.1, H3.out.2.1, Turn.refl _ _⟩
        case round =>
          obtain ⟨i, hi, rfl, hD, hO, hT⟩ := hrel
          by_cases hlt : i < B
          · have hlti : (i : Int) < B := by omega
            have hltd : decide ((i : Int) < (B : Int)) = true := decide_eq_true hlti
            have hsd := side_any B 0 i (by omega) (by omega) (by omega) wr
            rw [show 8 + 0 % 2 * B + i = 8 + i by omega, show ((0 : Nat) : Int) = 0 from rfl] at hsd
            have hc := HW1.out.1 (8 + i) wr (by have := HW1.out.2.1; omega) hD hO
            have HT := Lib.hid hT
            clear hD hO hT
            go_wp2_with fail
            refine hsd.mono ?_
            rintro e w' ⟨rfl, rfl⟩
            clear hsd
            go_wp2_with fail
            refine hc.mono ?_
            rintro e w2 ⟨rfl, ⟨hD, hO⟩, hT2⟩
            have H2 := Lib.hid (And.intro hD (And.intro hO (HT.out.trans hT2 (fun x hx => .inl hx))))
            clear hD hO hT2 hc
            go_wp2_with fail
            go_roundw
            case measure => simp [intOf]; omega
            exact ⟨i + 1, by omega, by simp, H2.out.1, H2.out.2.1, H2.out.2.2⟩
          · obtain rfl : i = B := by omega
            have hlti : ¬ (i : Int) < i := by omega
            have hltd : decide ((i : Int) < (i : Int)) = false := decide_eq_false hlti
            have HL := Lib.hid (And.intro hD (And.intro (hT) (And.intro (H3.out.2.2.2.beside H3.out.1 hT) (H1.out.2.2.1.trans (H3.out.2.2.1.trans hT (fun x hx => .inl hx)) (fun x hx => .inl hx)))))
            clear hD hO hT
            have hs := dksync_any d L s1 wr 1 HL.out.1 HR1.out.1 (by omega)
            have f2 := sy_fok HR1.out.1
            have n2 := (sy_did s1).n
            have r2 := fun j => sy_rd (s := s1) (j := j)
            obtain ⟨ok2, s2, hr2⟩ : ∃ ok2 s2, s1.sy = (ok2, s2) := ⟨_, _, rfl⟩
            have hq := HQ.out
            rw [hr2] at hs f2 n2 r2 hq
            simp only at hs f2 n2 r2 hq
            have HQ := Lib.hid hq
            have HR2 := Lib.hid (And.intro f2 (And.intro n2 r2))
            clear hq hr2 f2 n2 r2
            go_wp2_with fail
            refine hs.mono ?_
            rintro e w5 ⟨rfl, hD5, hT5⟩
            have H5 := Lib.hid (And.intro hD5 (And.intro (HL.out.2.2.2.trans hT5 (fun x hx => .inl hx)) (HL.out.2.2.1.beside HL.out.1 hT5)))
            clear hD5 hT5 hs
            cases ok2 with
            | false =>
              have hq := HQ.out
              rw [if_pos rfl] at hq
              injection hq with e1 e2
              subst e1 e2
              go_wp2_with fail
              go_ret
              exact ⟨rfl, H5.out.1, H5.out.2.1⟩
            | true =>
              have hq := HQ.out
              simp only [Bool.true_eq_false, if_false] at hq
              have HQ := Lib.hid hq
              clear hq
              have hh := head_any 0 (by decide) w5 H5.out.2.2
              rw [show ((0 : Nat) : Int) = 0 from rfl] at hh
              go_wp2_with fail
              refine hh.mono ?_
              rintro e w6 ⟨A6, n6, c6, rfl, hO6, hb6⟩
              clear hh
              obtain rfl : n6 = 256 := by have := hO6.len; rw [headB_len] at this; exact this
              obtain ⟨b6, off6, rfl, hat6⟩ := hO6.rd.addr (by omega)
              have hne : s2.rd 0 ≠ headB 0 := by
                rw [HR2.out.2.2, HR1.out.2.2, H1.out.2.2.2.2.1 0 (by have := H1.out.2.2.2.2.2.1; omega)]; exact head0_ne
              have hn2 : 0 < s2.n := by have := HR2.out.2.1; have := HR1.out.2.1; have := H1.out.2.2.2.2.2.1; omega
              have hwo := wrote_any d L s2 w6 2 (H5.out.1.below hb6) HR2.out.1 (by omega) 0 hn2 b6 off6 c6 (headB 0) hat6 (headB_len 0) ⟨hO6.rd.2.1, hO6.rd.2.2.1⟩
              have hwe : s2.wrote 0 (headB 0) = s2.wr 0 (headB 0) := by unfold Dsk.wrote; rw [if_neg hne]
              have f3 := wr_fok HR2.out.1 0 (headB 0)
              rw [hwe] at hwo
              obtain ⟨ok3, s3, hr3⟩ : ∃ ok3 s3, s2.wr 0 (headB 0) = (ok3, s3) := ⟨_, _, rfl⟩
              have hq := HQ.out
              rw [hr3] at hwo f3 hq
              simp only at hwo f3 hq
              rw [show ((0 : Nat) : Int) = 0 from rfl] at hwo
              have HQ := Lib.hid hq
              have H6 := Lib.hid (And.intro f3 (H5.out.2.1.trans (Turn.of_below [d, L] hb6) (fun x hx => .inl hx)))
              clear hq hr3 f3 hwe hne hn2 hb6 hat6 hO6
              go_wp2_with fail
              refine hwo.mono ?_
              rintro e w7 ⟨rfl, hD7, hT7⟩
              have H7 := Lib.hid (And.intro hD7 (H6.out.2.trans hT7 (fun x hx => .inl hx)))
              clear hD7 hT7 hwo
              cases ok3 with
              | false =>
                have hq := HQ.out
                rw [if_pos rfl] at hq
                injection hq with e1 e2
                subst e1 e2
                go_wp2_with fail
                go_ret
                exact ⟨rfl, H7.out.1, H7.out.2⟩
              | true =>
                have hq := HQ.out
                simp only [Bool.true_eq_false, if_false] at hq
                have HQ := Lib.hid hq
                clear hq
                have hs := dksync_any d L s3 w7 3 H7.out.1 H6.out.1 (by omega)
                obtain ⟨ok4, s4, hr4⟩ : ∃ ok4 s4, s3.sy = (ok4, s4) := ⟨_, _, rfl⟩
                have hq := HQ.out
                rw [hr4] at hs hq
                simp only at hs
                injection hq with e1 e2
                subst e1 e2
                clear hr4
                go_wp2_with fail
                refine hs.mono ?_
                rintro e w8 ⟨rfl, hD8, hT8⟩
                have H8 := Lib.hid (And.intro hD8 (H7.out.2.trans hT8 (fun x hx => .inl hx)))
                clear hD8 hT8 hs
                cases ok4 with
                | false =>
                  go_wp2_with fail
                  go_ret
                  exact ⟨rfl, H8.out.1, H8.out.2⟩
                | true =>
                  go_wp2_with fail
                  go_ret
                  exact ⟨rfl, H8.out.1, H8.out.2⟩
end Go.Proofs.YtomngfihaohgdaaDoor
