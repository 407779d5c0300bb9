/-
  Contract of baileylaw13.same: all that both disks tell.
-/
import Derived.Test.YtpfijfflfgfojaaMatch
import Derived.Test.YtpfijfflfgfojaaReg
import Derived.Test.YtpfijfflfgfojaaRange2
import Derived.Test.YtpfijfflfgfojaaRange3
namespace Go.Proofs.Ytpfijfflfgfojaa
open Go.RowKit
attribute [local go_sem] Oper.semAt_some

def RdRes (w : World) (l : List UInt8) (e : Ending) (w' : World) : Prop := ∃ A n c, e = .returned (.slice A n c) ∧ Rd w' A n c l ∧ Below w.heap.size w w'
theorem count_any' (d L : Nat) (xs : List SecV) (s : Dsk) (w : World) (h : DiskAt w d L xs s) :
    Calls Try.prog 25 #[.pointer (some ⟨d, 0, none⟩)] w fun e w' => e = .returned (.int .i64 (s.count : Int)) ∧ w = w' := count_any d L xs s w h
/-- What stands at every place of same: the box of r, the answer. -/
structure SmI (w : World) (p : RPl) (W : World) : Prop where
  bx : Blk W w.heap.size 26 #[.pointer (some ⟨p.d, 0, none⟩)]
  ans : Blk W (w.heap.size + 1) 4 #[.bool false]
  old : Old w W
theorem SmI.first (w : World) (p : RPl) : SmI w p ((w.alloc (.cells #[.pointer (some ⟨p.d, 0, none⟩)] 26)).alloc (.cells #[.bool false] 4)) :=
  ⟨(Blk.new w _ _).alloc _, by have := Blk.new (w.alloc (.cells #[.pointer (some ⟨p.d, 0, none⟩)] 26)) 4 #[.bool false]; simpa using this, Old.alloc (Old.alloc (Old.refl _) _) _⟩
theorem SmI.turn {w : World} {p : RPl} {W W' : World} {S : List Nat} (h : SmI w p W) (ht : Turn S W W') (hS : ∀ x ∈ S, w.heap.size + 1 < x) : SmI w p W' :=
  ⟨h.bx.turn ht (fun hm => by have := hS _ hm; omega), h.ans.turn ht (fun hm => by have := hS _ hm; omega), h.old.turned ht (fun x hm => by have := hS _ hm; omega)⟩
theorem SmI.below {w : World} {p : RPl} {W W' : World} (h : SmI w p W) (hb : Old W W') : SmI w p W' := h.turn (Turn.of_below [] hb) (by simp)
theorem SmI.cells {w : World} {p : RPl} {s : Dsk} {r : RDsk} {W : World} (h : SmI w p W) (hr : RefAt w p r) (hm : Match s r) :
    W.cell? ⟨w.heap.size, 0, none⟩ = some (.pointer (some ⟨p.d, 0, none⟩)) ∧ W.cell? ⟨p.d, 1, none⟩ = some (.slice (some ⟨p.gN, 0, none⟩) s.secs.length p.cN) ∧
    W.cell? ⟨p.d, 2, none⟩ = some (.slice (some ⟨p.gW, 0, none⟩) s.secs.length s.secs.length) ∧ W.cell? ⟨p.d, 4, none⟩ = some (.int .i64 (s.count : Int)) := by
  have hh := (hr.below h.old).head
  have e1 := hm.len
  have e2 := hm.count
  refine ⟨h.bx.cell 0, ?_, ?_, ?_⟩
  · rw [hh.cell 1, e1]; rfl
  · rw [hh.cell 2, e1]; rfl
  · rw [hh.cell 4, e2]; rfl
theorem SmI.wet {w : World} {p : RPl} {s : Dsk} {r : RDsk} {W : World} (h : SmI w p W) (hr : RefAt w p r) (hm : Match s r) (m : Nat) (x : Sec) (hx : s.secs[m]? = some x) : W.cell? ⟨p.gW, m, none⟩ = some (.bool x.dirty) :=
  wet_cell (hr.below h.old) hm m x hx
set_option maxRecDepth 100000 in
set_option maxHeartbeats 4000000 in
theorem same_any (d L : Nat) (xs : List SecV) (s : Dsk) (p : RPl) (r : RDsk) (i : Int) (w : World) (hd : DiskAt w d L xs s) (hr : RefAt w p r) (hm : Match s r) :
    Calls Try.prog 18 #[.pointer (some ⟨d, 0, none⟩), .pointer (some ⟨p.d, 0, none⟩), .int .i64 i] w fun e w' => e = .returned (.bool true) ∧ Below w.heap.size w w' := by
  have h0 := SmI.first w p
  have hlm := hd.2.2.2.2
  have hl0 := hd.2.2.2.1
  have ldd := hd.1.lt
  have ldL := hd.2.1.lt
  have ldr := hr.head.lt
  have HD := Lib.hid (And.intro hd (And.intro hr hm))
  have HF := Lib.hid (fun (W : World) (h : SmI w p W) => h.cells hr hm)
  have HW := Lib.hid (fun (W : World) (h : SmI w p W) (m : Nat) (x : Sec) (hx : s.secs[m]? = some x) => h.wet hr hm m x hx)
  have H0 := Lib.hid h0
  have hne := neqNilSeq
  have d1 := hr.head.cell 1
  have e1 := hm.len
  simp [← e1] at d1
  clear e1
  clear h0 hd hr hm
  refine calls_of_marks Try.func18 rfl ?_
  simp only [Try.ntmps18, List.size_toArray, List.length_cons, List.length_nil, Nat.reduceAdd, Nat.reduceSub, Array.replicate_succ, Array.replicate_zero, List.push_toArray, List.append_toArray, List.nil_append, List.cons_append]
  have hcase : (∃ k : Nat, i = k ∧ k < s.secs.length) ∨ (¬ (0 ≤ i)) ∨ (0 ≤ i ∧ (s.secs.length : Int) ≤ i) := by
    rcases Int.lt_or_le i 0 with h | h
    · exact .inr (.inl (by omega))
    · rcases Int.lt_or_le i s.secs.length with h2 | h2
      · exact .inl ⟨i.toNat, by omega, by omega⟩
      · exact .inr (.inr ⟨h, h2⟩)
  obtain ⟨lw, hRd, hcase2⟩ : ∃ lw, (∀ W, Old w W → Calls Try.prog 23 #[.pointer (some ⟨d, 0, none⟩), .int .i64 i] W (RdRes W lw)) ∧
      ((∃ (k gn cn : Nat), i = k ∧ k < s.secs.length ∧ w.cell? ⟨p.gN, k, none⟩ = some (.slice (some ⟨gn, 0, none⟩) 256 cn) ∧ Rd w (some ⟨gn, 0, none⟩) 256 cn lw ∧ p.gN < w.heap.size) ∨ (lw = [] ∧ ((¬ (0 ≤ i)) ∨ (0 ≤ i ∧ (s.secs.length : Int) ≤ i)))) := by
    obtain ⟨hd, hr, hm⟩ := HD.out
    rcases hcase with ⟨k, rfl, hk⟩ | hc
    · have hkr : k < r.now.length := by rw [← hm.len]; exact hk
      obtain ⟨gn, cn, hvn, byn, lnn⟩ := hr.nowOk.at_ hkr
      refine ⟨s.secs[k].read, fun W ho => ?_, .inl ⟨k, gn, cn, rfl, hk, hr.rowN.get hvn, ?_, hr.rowN.lt⟩⟩
      · refine (read_in d L xs s W (hd.below ho) k hk).mono ?_
        rintro e w' ⟨g, c', rfl, hO, hl, hb⟩
        obtain ⟨A', c2, he, hrd, _⟩ := hO.shape
        rw [hl] at he hrd
        cases he
        exact ⟨_, _, _, rfl, hrd, hb⟩
      · rw [hm.now k _ _ (List.getElem?_eq_getElem hk) (List.getElem?_eq_getElem hkr)]
        obtain ⟨A', c2, he, hrd, _⟩ := byn.1.shape
        rw [lnn] at hrd he
        cases he
        exact hrd
    · refine ⟨[], fun W ho => ?_, .inr ⟨rfl, hc⟩⟩
      refine (read_out d L xs s W (hd.below ho) i (by omega)).mono ?_
      rintro e w' ⟨rfl, rfl⟩
      exact ⟨none, 0, 0, rfl, Rd.nil _, Below.refl _ _⟩
  have HR := Lib.hid hRd
  clear hRd hcase
  rcases hcase2 with ⟨k, gn, cn, rfl, hk, hcn, hrn, lgN⟩ | ⟨rfl, hc | ⟨hc1, hc2⟩⟩
  all_goals
    first
      | (have hki : (k : Int) < s.secs.length := by omega
         have hkn : k < s.secs.length := hk
         have HWn := Lib.hid (fun (W : World) (h : Old w W) => (hrn.below h).str)
         clear hrn hk)
      | (have HWn := Lib.hid (fun (W : World) (h : Old w W) => toStr_nil W 0 0))
  all_goals
    go_wp2_with fail
    have hI1 := H0.out
    generalize ((w.alloc (.cells #[.pointer (some ⟨p.d, 0, none⟩)] 26)).alloc (.cells #[.bool false] 4)) = w1 at *
    have HI := Lib.hid hI1
    clear hI1 H0
    refine region_old (by kernel_rfl) (fun wd hHeld hSz => ?_)
    have HSz := Lib.hid hSz
    clear hSz
    refine takeL (i := 0) (v := ?_) rfl (by kernel_rfl) (by kernel_rfl) (by kernel_rfl) (fun _ _ _ h => h) (Or.inl ⟨by rfl, ?_⟩) hHeld ?_
    rotate_left
    focus (intro wq hSw; clear hSw; go_simp; try with_reducible rfl)
    try simp only [Act.put, List.setIfInBounds_toArray, List.set_cons_zero, List.set_cons_succ]
    refine takeL (i := 2) (v := ?_) rfl (by kernel_rfl) (by kernel_rfl) (by kernel_rfl) (fun _ _ _ h => h) (Or.inl ⟨by rfl, ?_⟩) hHeld ?_
    rotate_left
    focus (intro wq hSw; obtain ⟨q0, q1, q2, q4⟩ := HF.out wq (HI.out.below hSw); clear hSw; go_simp; try with_reducible rfl)
    try simp only [Act.put, List.setIfInBounds_toArray, List.set_cons_zero, List.set_cons_succ]
    refine takeL (i := 3) (v := ?_) rfl (by kernel_rfl) (by kernel_rfl) (by kernel_rfl) (fun _ _ _ h => h) (Or.inl ⟨by rfl, ?_⟩) hHeld ?_
    rotate_left
    focus (intro wq hSw; clear hSw; go_simp; try with_reducible rfl)
    try simp only [Act.put, List.setIfInBounds_toArray, List.set_cons_zero, List.set_cons_succ]
    refine takeL (i := 4) (v := ?_) rfl (by kernel_rfl) (by kernel_rfl) (by kernel_rfl) (fun _ _ _ h => h) (Or.inl ⟨by rfl, ?_⟩) hHeld ?_
    rotate_left
    focus (intro wq hSw; clear hSw; go_simp; try with_reducible rfl)
    try simp only [Act.put, List.setIfInBounds_toArray, List.set_cons_zero, List.set_cons_succ]
    refine takeL (i := 5) (v := ?_) rfl (by kernel_rfl) (by kernel_rfl) (by kernel_rfl) (fun _ _ _ h => h) (Or.inl ⟨by rfl, ?_⟩) hHeld ?_
    rotate_left
    focus (intro wq hSw; obtain ⟨q0, q1, q2, q4⟩ := HF.out wq (HI.out.below hSw); clear hSw; go_simp; try with_reducible rfl)
    try simp only [Act.put, List.setIfInBounds_toArray, List.set_cons_zero, List.set_cons_succ]
    refine takeL (i := 6) (v := ?_) rfl (by kernel_rfl) (by kernel_rfl) (by kernel_rfl) (fun _ _ _ h => h) (Or.inl ⟨by rfl, ?_⟩) hHeld ?_
    rotate_left
    focus (intro wq hSw; clear hSw; go_simp; try with_reducible rfl)
    try simp only [Act.put, List.setIfInBounds_toArray, List.set_cons_zero, List.set_cons_succ]
    refine wpAnyH_ready (rs := [1]) (by kernel_rfl) (by simp) ?_
    refine consL rfl (fun K hK => ?_) AllReadyH.nil
    go_simp
    refine (sectors_any d L xs s _ (HD.out.1.below (HI.out.below hHeld).old)).mono ?_
    rintro en w' ⟨rfl, rfl⟩
    refine hK.out _ _ (by repeat (first | exact hHeld | exact Old.refl _ | assumption | refine Old.drew ?_ | refine Old.drewN ?_ _ | refine Old.alloc ?_ _)) (fun hHeld => ?_)
    clear hK K
    try simp only [Act.put, List.setIfInBounds_toArray, List.set_cons_zero, List.set_cons_succ]
    refine takeL (i := 7) (v := ?_) rfl (by kernel_rfl) (by kernel_rfl) (by kernel_rfl) (fun _ _ _ h => h) (Or.inl ⟨by rfl, ?_⟩) hHeld ?_
    rotate_left
    focus (intro wq hSw; clear hSw; go_simp; try with_reducible rfl)
    try simp only [Act.put, List.setIfInBounds_toArray, List.set_cons_zero, List.set_cons_succ]
    refine takeL (i := 8) (v := ?_) rfl (by kernel_rfl) (by kernel_rfl) (by kernel_rfl) (fun _ _ _ h => h) (Or.inl ⟨by rfl, ?_⟩) hHeld ?_
    rotate_left
    focus (intro wq hSw; clear hSw; go_simp; try with_reducible rfl)
    try simp only [Act.put, List.setIfInBounds_toArray, List.set_cons_zero, List.set_cons_succ]
    refine takeL (i := 9) (v := ?_) rfl (by kernel_rfl) (by kernel_rfl) (by kernel_rfl) (fun _ _ _ h => h) (Or.inl ⟨by rfl, ?_⟩) hHeld ?_
    rotate_left
    focus (intro wq hSw; clear hSw; go_simp; try with_reducible rfl)
    try simp only [Act.put, List.setIfInBounds_toArray, List.set_cons_zero, List.set_cons_succ]
    refine takeL (i := 10) (v := ?_) rfl (by kernel_rfl) (by kernel_rfl) (by kernel_rfl) (fun _ _ _ h => h) (Or.inl ⟨by rfl, ?_⟩) hHeld ?_
    rotate_left
    focus (intro wq hSw; clear hSw; go_simp; try with_reducible rfl)
    try simp only [Act.put, List.setIfInBounds_toArray, List.set_cons_zero, List.set_cons_succ]
    refine takeL (i := 13) (v := ?_) rfl (by kernel_rfl) (by kernel_rfl) (by kernel_rfl) (fun _ _ _ h => h) (Or.inl ⟨by rfl, ?_⟩) hHeld ?_
    rotate_left
    focus (intro wq hSw; clear hSw; go_simp; try with_reducible rfl)
    try simp only [Act.put, List.setIfInBounds_toArray, List.set_cons_zero, List.set_cons_succ]
    refine takeL (i := 14) (v := ?_) rfl (by kernel_rfl) (by kernel_rfl) (by kernel_rfl) (fun _ _ _ h => h) (Or.inl ⟨by rfl, ?_⟩) hHeld ?_
    rotate_left
    focus (intro wq hSw; have hRun := HWn.out _ (HI.out.below hSw).old; clear hSw; go_simp; try with_reducible rfl)
    try simp only [Act.put, List.setIfInBounds_toArray, List.set_cons_zero, List.set_cons_succ]
    refine wpAnyH_ready (rs := [11]) (by kernel_rfl) (by simp) ?_
    refine consL rfl (fun K hK => ?_) AllReadyH.nil
    go_simp
    refine (HR.out _ (HI.out.below hHeld).old).mono ?_
    rintro en w3 ⟨A3, n3, c3, rfl, hr3, hb3⟩
    have hb3' : Old w1 w3 := Old.trans hHeld hb3
    clear hb3
    refine hK.out _ _ hb3' (fun hHeld => ?_)
    clear hK K
    try simp only [Act.put, List.setIfInBounds_toArray, List.set_cons_zero, List.set_cons_succ]
    refine wpAnyH_old (w1 := w3) hb3' (fun hHeld => ?_) (Old.refl _)
    refine takeL (i := 12) (v := ?_) rfl (by kernel_rfl) (by kernel_rfl) (by kernel_rfl) (fun _ _ _ h => h) (Or.inl ⟨by rfl, ?_⟩) hHeld ?_
    rotate_left
    focus (intro wq hSw; have hRun := hr3.str_below hSw; clear hSw; go_simp; try with_reducible rfl)
    try simp only [Act.put, List.setIfInBounds_toArray, List.set_cons_zero, List.set_cons_succ]
    refine takeL (i := 15) (v := ?_) rfl (by kernel_rfl) (by kernel_rfl) (by kernel_rfl) (fun _ _ _ h => h) (Or.inl ⟨by rfl, ?_⟩) hHeld ?_
    rotate_left
    focus (intro wq hSw; clear hSw; go_simp; try with_reducible rfl)
    try simp only [Act.put, List.setIfInBounds_toArray, List.set_cons_zero, List.set_cons_succ]
    refine takeL (i := 16) (v := ?_) rfl (by kernel_rfl) (by kernel_rfl) (by kernel_rfl) (fun _ _ _ h => h) (Or.inl ⟨by rfl, ?_⟩) hHeld ?_
    rotate_left
    focus (intro wq hSw; clear hSw; go_simp; try with_reducible rfl)
    try simp only [Act.put, List.setIfInBounds_toArray, List.set_cons_zero, List.set_cons_succ]
    refine takeL (i := 17) (v := ?_) rfl (by kernel_rfl) (by kernel_rfl) (by kernel_rfl) (fun _ _ _ h => h) (Or.inl ⟨by rfl, ?_⟩) hHeld ?_
    rotate_left
    focus (intro wq hSw; clear hSw; go_simp; try with_reducible rfl)
    try simp only [Act.put, List.setIfInBounds_toArray, List.set_cons_zero, List.set_cons_succ]
    refine takeL (i := 18) (v := ?_) rfl (by kernel_rfl) (by kernel_rfl) (by kernel_rfl) (fun _ _ _ h => h) (Or.inl ⟨by rfl, ?_⟩) hHeld ?_
    rotate_left
    focus (intro wq hSw; clear hSw; go_simp; try with_reducible rfl)
    try simp only [Act.put, List.setIfInBounds_toArray, List.set_cons_zero, List.set_cons_succ]
    refine takeL (i := 20) (v := ?_) rfl (by kernel_rfl) (by kernel_rfl) (by kernel_rfl) (fun _ _ _ h => h) (Or.inl ⟨by rfl, ?_⟩) hHeld ?_
    rotate_left
    focus (intro wq hSw; obtain ⟨q0, q1, q2, q4⟩ := HF.out wq (HI.out.below (Old.trans hb3' hSw)); clear hSw; go_simp; try with_reducible rfl)
    try simp only [Act.put, List.setIfInBounds_toArray, List.set_cons_zero, List.set_cons_succ]
    refine wpAnyH_ready (rs := [19]) (by kernel_rfl) (by simp) ?_
    refine consL rfl (fun K hK => ?_) AllReadyH.nil
    go_simp
    refine (dead_any d L xs s _ (HD.out.1.below (HI.out.below (Old.trans hb3' hHeld)).old)).mono ?_
    rintro en w' ⟨rfl, rfl⟩
    refine hK.out _ _ (by repeat (first | exact hHeld | exact Old.refl _ | assumption | refine Old.drew ?_ | refine Old.drewN ?_ _ | refine Old.alloc ?_ _)) (fun hHeld => ?_)
    clear hK K
    try simp only [Act.put, List.setIfInBounds_toArray, List.set_cons_zero, List.set_cons_succ]
    refine wpAnyH_ready (rs := [21]) (by kernel_rfl) (by simp) ?_
    refine consL rfl (fun K hK => ?_) AllReadyH.nil
    go_simp
    have hcd : Calls Try.prog 30 #[.pointer (some ⟨p.d, 0, none⟩)] _ fun e w' => e = .returned (.bool s.dead) ∧ _ = w' := (by rw [HD.out.2.2.dead]; exact rdead_any p r _ (HD.out.2.1.below (HI.out.below (Old.trans hb3' hHeld)).old))
    refine hcd.mono ?_
    rintro en w' ⟨rfl, rfl⟩
    refine hK.out _ _ (by repeat (first | exact hHeld | exact Old.refl _ | assumption | refine Old.drew ?_ | refine Old.drewN ?_ _ | refine Old.alloc ?_ _)) (fun hHeld => ?_)
    clear hK K
    try simp only [Act.put, List.setIfInBounds_toArray, List.set_cons_zero, List.set_cons_succ]
    refine takeL (i := 22) (v := ?_) rfl (by kernel_rfl) (by kernel_rfl) (by kernel_rfl) (fun _ _ _ h => h) (Or.inl ⟨by rfl, ?_⟩) hHeld ?_
    rotate_left
    focus (intro wq hSw; clear hSw; go_simp; try with_reducible rfl)
    try simp only [Act.put, List.setIfInBounds_toArray, List.set_cons_zero, List.set_cons_succ]
    refine takeL (i := 23) (v := ?_) rfl (by kernel_rfl) (by kernel_rfl) (by kernel_rfl) (fun _ _ _ h => h) (Or.inl ⟨by rfl, ?_⟩) hHeld ?_
    rotate_left
    focus (intro wq hSw; clear hSw; go_simp; try with_reducible rfl)
    try simp only [Act.put, List.setIfInBounds_toArray, List.set_cons_zero, List.set_cons_succ]
    refine takeL (i := 24) (v := ?_) rfl (by kernel_rfl) (by kernel_rfl) (by kernel_rfl) (fun _ _ _ h => h) (Or.inl ⟨by rfl, ?_⟩) hHeld ?_
    rotate_left
    focus (intro wq hSw; clear hSw; go_simp; try with_reducible rfl)
    try simp only [Act.put, List.setIfInBounds_toArray, List.set_cons_zero, List.set_cons_succ]
    refine takeL (i := 25) (v := ?_) rfl (by kernel_rfl) (by kernel_rfl) (by kernel_rfl) (fun _ _ _ h => h) (Or.inl ⟨by rfl, ?_⟩) hHeld ?_
    rotate_left
    focus (intro wq hSw; clear hSw; go_simp; try with_reducible rfl)
    try simp only [Act.put, List.setIfInBounds_toArray, List.set_cons_zero, List.set_cons_succ]
    refine takeL (i := 27) (v := ?_) rfl (by kernel_rfl) (by kernel_rfl) (by kernel_rfl) (fun _ _ _ h => h) (Or.inl ⟨by rfl, ?_⟩) hHeld ?_
    rotate_left
    focus (intro wq hSw; obtain ⟨q0, q1, q2, q4⟩ := HF.out wq (HI.out.below (Old.trans hb3' hSw)); clear hSw; go_simp; try with_reducible rfl)
    try simp only [Act.put, List.setIfInBounds_toArray, List.set_cons_zero, List.set_cons_succ]
    refine takeL (i := 28) (v := ?_) rfl (by kernel_rfl) (by kernel_rfl) (by kernel_rfl) (fun _ _ _ h => h) (Or.inl ⟨by rfl, ?_⟩) hHeld ?_
    rotate_left
    focus (intro wq hSw; clear hSw; go_simp; try with_reducible rfl)
    try simp only [Act.put, List.setIfInBounds_toArray, List.set_cons_zero, List.set_cons_succ]
    refine takeL (i := 29) (v := ?_) rfl (by kernel_rfl) (by kernel_rfl) (by kernel_rfl) (fun _ _ _ h => h) (Or.inl ⟨by rfl, ?_⟩) hHeld ?_
    rotate_left
    focus (intro wq hSw; clear hSw; go_simp; try with_reducible rfl)
    try simp only [Act.put, List.setIfInBounds_toArray, List.set_cons_zero, List.set_cons_succ]
    refine takeL (i := 30) (v := ?_) rfl (by kernel_rfl) (by kernel_rfl) (by kernel_rfl) (fun _ _ _ h => h) (Or.inl ⟨by rfl, ?_⟩) hHeld ?_
    rotate_left
    focus (intro wq hSw; obtain ⟨q0, q1, q2, q4⟩ := HF.out wq (HI.out.below (Old.trans hb3' hSw)); clear hSw; go_simp; try with_reducible rfl)
    try simp only [Act.put, List.setIfInBounds_toArray, List.set_cons_zero, List.set_cons_succ]
    refine wpAnyH_ready (rs := [26]) (by kernel_rfl) (by simp) ?_
    refine consL rfl (fun K hK => ?_) AllReadyH.nil
    go_simp
    refine (count_any' d L xs s _ (HD.out.1.below (HI.out.below (Old.trans hb3' hHeld)).old)).mono ?_
    rintro en w' ⟨rfl, rfl⟩
    refine hK.out _ _ (by repeat (first | exact hHeld | exact Old.refl _ | assumption | refine Old.drew ?_ | refine Old.drewN ?_ _ | refine Old.alloc ?_ _)) (fun hHeld => ?_)
    clear hK K
    try simp only [Act.put, List.setIfInBounds_toArray, List.set_cons_zero, List.set_cons_succ]
    refine takeL (i := 31) (v := ?_) rfl (by kernel_rfl) (by kernel_rfl) (by kernel_rfl) (fun _ _ _ h => h) (Or.inl ⟨by rfl, ?_⟩) hHeld ?_
    rotate_left
    focus (intro wq hSw; clear hSw; go_simp; try with_reducible rfl)
    try simp only [Act.put, List.setIfInBounds_toArray, List.set_cons_zero, List.set_cons_succ]
    refine takeL (i := 32) (v := ?_) rfl (by kernel_rfl) (by kernel_rfl) (by kernel_rfl) (fun _ _ _ h => h) (Or.inl ⟨by rfl, ?_⟩) hHeld ?_
    rotate_left
    focus (intro wq hSw; clear hSw; go_simp; try with_reducible rfl)
    try simp only [Act.put, List.setIfInBounds_toArray, List.set_cons_zero, List.set_cons_succ]
    refine wpAnyH_done (by kernel_rfl) ?_ _
    refine NoPanic.normal ?_
    simp only [Exit.then]
    have hI3 := HI.out.below hb3'
    have HI3 := Lib.hid hI3
    clear hI3 hr3 hb3' hHeld
    go_wp2_with fail
    refine (dirty_any _ _).mono ?_
    rintro en w5 ⟨rfl, rfl⟩
    go_wp2_with fail
    obtain ⟨X, hX⟩ : ∃ X, w3.heap.size = X := ⟨_, rfl⟩
    obtain ⟨W0, hW0⟩ : ∃ W0, (w3.alloc (.cells #[.pointer (some ⟨d, 0, none⟩)] 24)).alloc (.cells #[.int .i64 (-1)] 3) = W0 := ⟨_, rfl⟩
    have hbx : Blk W0 X 24 #[.pointer (some ⟨d, 0, none⟩)] := by rw [← hW0, ← hX]; exact (Blk.new w3 _ _).alloc _
    have hbk : Blk W0 (X + 1) 3 #[.int .i64 (-1)] := by
      have := Blk.new (w3.alloc (.cells #[.pointer (some ⟨d, 0, none⟩)] 24)) 3 #[.int .i64 (-1)]
      rw [hW0] at this; simpa [hX] using this
    have hz0 : W0.heap.size = X + 2 := by rw [← hW0, ← hX]; simp
    have h30 : Old w3 W0 := by rw [← hW0]; exact Old.alloc (Old.alloc (Old.refl _) _) _
    have hXb : w.heap.size + 1 < X := by rw [← hX]; exact HI3.out.ans.lt
    rw [hW0, hX]
    have HZ := Lib.hid (And.intro hbx (And.intro hbk (And.intro hz0 (And.intro (HI3.out.below h30) hXb))))
    clear hbx hbk hz0 h30 hXb hX hW0
    refine wp_rangeC (fun tm args _ => tm.setIfInBounds 10 (args.getD 0 undef)) (fun k args _ W => wetArg s k args W)
      (gf := 32) (lb := #[.pointer (some ⟨X, 0, none⟩)]) (T := []) rfl (fun _ _ => by kernel_rfl)
      (dirty_iter X d L xs s) (fun k args W h => by obtain ⟨i, _, rfl⟩ := h; rfl) (by simp)
      (fun k W => Blk W X 24 #[.pointer (some ⟨d, 0, none⟩)] ∧ Blk W (X + 1) 3 #[.int .i64 (wetPos s k)] ∧ SmI w p W) (fun _ _ _ => False)
      ?hI (fun _ _ _ _ _ h => h.elim) ?hM ?hA ⟨HZ.out.1, HZ.out.2.1, HZ.out.2.2.2.1⟩ ?hM0 ?hM1 ?hassign ?hbody ?hdone ?hstop
    case hI =>
      rintro k W1 W2 S ⟨h1, h2, h3⟩ ht hS
      have hz := HZ.out.2.2.1
      have hx := HZ.out.2.2.2.2
      have hS' : ∀ t ∈ S, X + 1 < t := by
        intro t hm
        rcases hS t hm with h | ⟨h, _⟩
        · cases h
        · omega
      exact ⟨h1.turn ht (fun hm => by have := hS' _ hm; omega), h2.turn ht (fun hm => by have := hS' _ hm; omega), h3.turn ht (fun t hm => by have := hS' _ hm; omega)⟩
    case hM =>
      rintro k W1 W2 ⟨h1, h2⟩ ⟨r, hr⟩ ht
      have hz := HZ.out.2.2.1
      have hx := HZ.out.2.2.2.2
      exact ⟨cell_turn h1 ht (by simp; omega), h2.turn' ht (by simp; omega) (by simp; omega) (fun g hg => by simp at hg; subst hg; exact noRow_loop hr)⟩
    case hA => intro k args g W1 W2 h _ _; exact h
    case hM0 => exact ⟨HZ.out.1.cell 0, HD.out.1.below HZ.out.2.2.2.1.old⟩
    case hM1 => intro W ht _; exact ⟨cell_turn (HZ.out.1.cell 0) ht (by simp), HD.out.1.below (HZ.out.2.2.2.1.below ht.below).old⟩
    case hassign =>
      rintro l' args k W K hk hlt hI hM ⟨j, hj, rfl⟩ hK
      have hK2 := hK 0 W ⟨[], Turn.refl _ _, by simp, by simp⟩ hI hM ⟨j, hj, rfl⟩
      have HX := Lib.hid hK2
      clear hI hM hlt hK hK2 hj hk
      gi_wp2
      have := HX.out
      simp at this
      exact this
    case hbody =>
      rintro l' k args g W hkN hlt ⟨hb1, hb2, hI⟩ hMi ⟨j, hj, rfl⟩
      obtain ⟨jlt, ⟨x, hjx, hjd⟩, jgt, jgap⟩ := wet_at s k j hj
      have hge := wetPos_ge s k
      have c0 := hb2.cell 0
      have f0 := hb2.frozen 0
      simp only [List.getElem?_toArray, List.getElem?_cons_zero] at c0
      have HX := Lib.hid (And.intro hb1 (And.intro hb2 (And.intro hI (And.intro hMi (And.intro hlt (wetPos_succ s k j hj))))))
      have HG := Lib.hid (And.intro jgap (And.intro hjx hjd))
      clear hb1 hb2 hI hMi hlt hj jgap hjx hjd hkN
      gi_wp2
      gi_loopw [] (fun wr => ∃ m : Nat, m ≤ j ∧ wetPos s k < m ∧ Blk wr (X + 1) 3 #[.int .i64 (m : Int)] ∧ SmI w p wr ∧ Turn [X + 1] W wr) (fun wr => j - (intOf ((wr.cell? ⟨X + 1, 0, none⟩).getD undef)).toNat)
      case atStart =>
        obtain ⟨q, hq⟩ : ∃ q : Nat, wetPos s k + 1 = q := ⟨(wetPos s k + 1).toNat, by omega⟩
        rw [hq]
        have hT := (Turn.refl [X + 1] W).setCell (p := ⟨X + 1, 0, none⟩) (.inl (by simp)) (.int .i64 (q : Int))
        exact ⟨q, by omega, by omega, HX.out.2.1.set_ 0 _, HX.out.2.2.1.turn hT (by have := HZ.out.2.2.2.2; simp; omega), hT⟩
      case round =>
        obtain ⟨m, hmj, hmk, hB, hS, hT⟩ := hrel
        have hml : m < s.secs.length := by omega
        have hmi : (m : Int) < s.secs.length := by omega
        have hm0 : (0 : Int) ≤ m := by omega
        have hmm : (m : Int) ≤ 65536 := by omega
        have hxm : s.secs[m]? = some s.secs[m] := List.getElem?_eq_getElem hml
        have k0 := hB.cell 0
        have g0 := hB.frozen 0
        simp only [List.getElem?_toArray, List.getElem?_cons_zero] at k0
        have HS := Lib.hid (And.intro hS (And.intro hB hT))
        clear hB hS hT c0 f0
        rcases Nat.lt_or_ge m j with hlt2 | hge2
        · have hdf := HG.out.1 m hmk hlt2 _ hxm
          have HWm := Lib.hid (fun (W : World) (h : SmI w p W) => HW.out W h m _ hxm)
          rw [hdf] at HWm
          clear hdf hxm
          gi_wp2
          refine region_roundOld (by kernel_rfl) ?hlets (by kernel_rfl) (fun wd hHeld hSz => ?_)
          case hlets => rintro ⟨_, _, h⟩; exact h
          have HSz := Lib.hid hSz
          clear hSz
          refine takeL (i := 0) (v := ?_) rfl (by kernel_rfl) (by kernel_rfl) (by kernel_rfl) (fun _ _ _ h => h) (Or.inl ⟨by rfl, ?_⟩) hHeld ?_
          rotate_left
          focus (intro wq hSw; obtain ⟨q0, q1, q2, q4⟩ := HF.out wq (HS.out.1.below hSw); have qk := (HS.out.2.1.below hSw).cell 0; simp only [List.getElem?_toArray, List.getElem?_cons_zero] at qk; have qw := HWm.out wq (HS.out.1.below hSw); clear hSw; go_simp; try with_reducible rfl)
          try simp only [Act.put, List.setIfInBounds_toArray, List.set_cons_zero, List.set_cons_succ]
          refine takeL (i := 1) (v := ?_) rfl (by kernel_rfl) (by kernel_rfl) (by kernel_rfl) (fun _ _ _ h => h) (Or.inl ⟨by rfl, ?_⟩) hHeld ?_
          rotate_left
          focus (intro wq hSw; obtain ⟨q0, q1, q2, q4⟩ := HF.out wq (HS.out.1.below hSw); have qk := (HS.out.2.1.below hSw).cell 0; simp only [List.getElem?_toArray, List.getElem?_cons_zero] at qk; have qw := HWm.out wq (HS.out.1.below hSw); clear hSw; go_simp; try with_reducible rfl)
          try simp only [Act.put, List.setIfInBounds_toArray, List.set_cons_zero, List.set_cons_succ]
          refine takeL (i := 2) (v := ?_) rfl (by kernel_rfl) (by kernel_rfl) (by kernel_rfl) (fun _ _ _ h => h) (Or.inl ⟨by rfl, ?_⟩) hHeld ?_
          rotate_left
          focus (intro wq hSw; clear hSw; go_simp; try with_reducible rfl)
          try simp only [Act.put, List.setIfInBounds_toArray, List.set_cons_zero, List.set_cons_succ]
          refine takeL (i := 3) (v := ?_) rfl (by kernel_rfl) (by kernel_rfl) (by kernel_rfl) (fun _ _ _ h => h) (Or.inl ⟨by rfl, ?_⟩) hHeld ?_
          rotate_left
          focus (intro wq hSw; clear hSw; go_simp; try with_reducible rfl)
          try simp only [Act.put, List.setIfInBounds_toArray, List.set_cons_zero, List.set_cons_succ]
          refine takeL (i := 4) (v := ?_) rfl (by kernel_rfl) (by kernel_rfl) (by kernel_rfl) (fun _ _ _ h => h) (Or.inl ⟨by rfl, ?_⟩) hHeld ?_
          rotate_left
          focus (intro wq hSw; obtain ⟨q0, q1, q2, q4⟩ := HF.out wq (HS.out.1.below hSw); have qk := (HS.out.2.1.below hSw).cell 0; simp only [List.getElem?_toArray, List.getElem?_cons_zero] at qk; have qw := HWm.out wq (HS.out.1.below hSw); clear hSw; go_simp; try with_reducible rfl)
          try simp only [Act.put, List.setIfInBounds_toArray, List.set_cons_zero, List.set_cons_succ]
          refine takeL (i := 5) (v := ?_) rfl (by kernel_rfl) (by kernel_rfl) (by kernel_rfl) (fun _ _ _ h => h) (Or.inl ⟨by rfl, ?_⟩) hHeld ?_
          rotate_left
          focus (intro wq hSw; clear hSw; go_simp; try with_reducible rfl)
          try simp only [Act.put, List.setIfInBounds_toArray, List.set_cons_zero, List.set_cons_succ]
          refine takeL (i := 6) (v := ?_) rfl (by kernel_rfl) (by kernel_rfl) (by kernel_rfl) (fun _ _ _ h => h) (Or.inl ⟨by rfl, ?_⟩) hHeld ?_
          rotate_left
          focus (intro wq hSw; clear hSw; go_simp; try with_reducible rfl)
          try simp only [Act.put, List.setIfInBounds_toArray, List.set_cons_zero, List.set_cons_succ]
          refine takeL (i := 7) (v := ?_) rfl (by kernel_rfl) (by kernel_rfl) (by kernel_rfl) (fun _ _ _ h => h) (Or.inl ⟨by rfl, ?_⟩) hHeld ?_
          rotate_left
          focus (intro wq hSw; clear hSw; go_simp; try with_reducible rfl)
          try simp only [Act.put, List.setIfInBounds_toArray, List.set_cons_zero, List.set_cons_succ]
          refine takeL (i := 8) (v := ?_) rfl (by kernel_rfl) (by kernel_rfl) (by kernel_rfl) (fun _ _ _ h => h) (Or.inl ⟨by rfl, ?_⟩) hHeld ?_
          rotate_left
          focus (intro wq hSw; obtain ⟨q0, q1, q2, q4⟩ := HF.out wq (HS.out.1.below hSw); have qk := (HS.out.2.1.below hSw).cell 0; simp only [List.getElem?_toArray, List.getElem?_cons_zero] at qk; have qw := HWm.out wq (HS.out.1.below hSw); clear hSw; go_simp; try with_reducible rfl)
          try simp only [Act.put, List.setIfInBounds_toArray, List.set_cons_zero, List.set_cons_succ]
          refine takeL (i := 9) (v := ?_) rfl (by kernel_rfl) (by kernel_rfl) (by kernel_rfl) (fun _ _ _ h => h) (Or.inl ⟨by rfl, ?_⟩) hHeld ?_
          rotate_left
          focus (intro wq hSw; clear hSw; go_simp; try with_reducible rfl)
          try simp only [Act.put, List.setIfInBounds_toArray, List.set_cons_zero, List.set_cons_succ]
          refine takeL (i := 10) (v := ?_) rfl (by kernel_rfl) (by kernel_rfl) (by kernel_rfl) (fun _ _ _ h => h) (Or.inl ⟨by rfl, ?_⟩) hHeld ?_
          rotate_left
          focus (intro wq hSw; clear hSw; go_simp; try with_reducible rfl)
          try simp only [Act.put, List.setIfInBounds_toArray, List.set_cons_zero, List.set_cons_succ]
          refine takeL (i := 11) (v := ?_) rfl (by kernel_rfl) (by kernel_rfl) (by kernel_rfl) (fun _ _ _ h => h) (Or.inl ⟨by rfl, ?_⟩) hHeld ?_
          rotate_left
          focus (intro wq hSw; obtain ⟨q0, q1, q2, q4⟩ := HF.out wq (HS.out.1.below hSw); have qk := (HS.out.2.1.below hSw).cell 0; simp only [List.getElem?_toArray, List.getElem?_cons_zero] at qk; have qw := HWm.out wq (HS.out.1.below hSw); clear hSw; go_simp; try with_reducible rfl)
          try simp only [Act.put, List.setIfInBounds_toArray, List.set_cons_zero, List.set_cons_succ]
          refine takeL (i := 12) (v := ?_) rfl (by kernel_rfl) (by kernel_rfl) (by kernel_rfl) (fun _ _ _ h => h) (Or.inl ⟨by rfl, ?_⟩) hHeld ?_
          rotate_left
          focus (intro wq hSw; obtain ⟨q0, q1, q2, q4⟩ := HF.out wq (HS.out.1.below hSw); have qk := (HS.out.2.1.below hSw).cell 0; simp only [List.getElem?_toArray, List.getElem?_cons_zero] at qk; have qw := HWm.out wq (HS.out.1.below hSw); clear hSw; go_simp; try with_reducible rfl)
          try simp only [Act.put, List.setIfInBounds_toArray, List.set_cons_zero, List.set_cons_succ]
          refine takeL (i := 13) (v := ?_) rfl (by kernel_rfl) (by kernel_rfl) (by kernel_rfl) (fun _ _ _ h => h) (Or.inl ⟨by rfl, ?_⟩) hHeld ?_
          rotate_left
          focus (intro wq hSw; clear hSw; go_simp; try with_reducible rfl)
          try simp only [Act.put, List.setIfInBounds_toArray, List.set_cons_zero, List.set_cons_succ]
          refine takeL (i := 14) (v := ?_) rfl (by kernel_rfl) (by kernel_rfl) (by kernel_rfl) (fun _ _ _ h => h) (Or.inl ⟨by rfl, ?_⟩) hHeld ?_
          rotate_left
          focus (intro wq hSw; obtain ⟨q0, q1, q2, q4⟩ := HF.out wq (HS.out.1.below hSw); have qk := (HS.out.2.1.below hSw).cell 0; simp only [List.getElem?_toArray, List.getElem?_cons_zero] at qk; have qw := HWm.out wq (HS.out.1.below hSw); clear hSw; go_simp; try with_reducible rfl)
          try simp only [Act.put, List.setIfInBounds_toArray, List.set_cons_zero, List.set_cons_succ]
          refine takeL (i := 15) (v := ?_) rfl (by kernel_rfl) (by kernel_rfl) (by kernel_rfl) (fun _ _ _ h => h) (Or.inl ⟨by rfl, ?_⟩) hHeld ?_
          rotate_left
          focus (intro wq hSw; clear hSw; go_simp; try with_reducible rfl)
          try simp only [Act.put, List.setIfInBounds_toArray, List.set_cons_zero, List.set_cons_succ]
          refine takeL (i := 16) (v := ?_) rfl (by kernel_rfl) (by kernel_rfl) (by kernel_rfl) (fun _ _ _ h => h) (Or.inl ⟨by rfl, ?_⟩) hHeld ?_
          rotate_left
          focus (intro wq hSw; clear hSw; go_simp; try with_reducible rfl)
          try simp only [Act.put, List.setIfInBounds_toArray, List.set_cons_zero, List.set_cons_succ]
          refine wpAnyH_done (by kernel_rfl) ?_ _
          simp only [Exit.then]
          have hO5 := HS.out.1.below hHeld
          have hB5 := HS.out.2.1.below hHeld
          have k5 := hB5.cell 0
          have g5 := hB5.frozen 0
          simp only [List.getElem?_toArray, List.getElem?_cons_zero] at k5
          have HS5 := Lib.hid (And.intro hO5 (And.intro hB5 hHeld))
          clear hO5 hB5 hHeld k0 g0
          gi_wp2
          go_roundw
          case rel =>
            have hT := (Turn.refl [X + 1] wd).setCell (p := ⟨X + 1, 0, none⟩) (.inl (by simp)) (.int .i64 ((m : Int) + 1))
            refine ⟨m + 1, by omega, by omega, HS5.out.2.1.set_ 0 _, HS5.out.1.turn hT (by have := HZ.out.2.2.2.2; simp; omega), ?_⟩
            exact (HS.out.2.2.trans (Turn.of_below [X + 1] HS5.out.2.2) (fun x hx => .inl hx)).trans hT (fun x hx => .inl hx)
          case measure =>
            have hk1 := (HS5.out.2.1.set_ 0 (.int .i64 ((m : Int) + 1))).cell 0
            have hk2 := HS.out.2.1.cell 0
            simp only [List.getElem?_toArray, List.getElem?_cons_zero] at hk2
            simp at hk1
            simp [hk1, hk2, intOf]
            omega
        · obtain rfl : m = j := by omega
          have hdf : s.secs[m].dirty = true := by
            have h1 := HG.out.2.1
            rw [hxm] at h1
            cases h1
            exact HG.out.2.2
          have HWm := Lib.hid (fun (W : World) (h : SmI w p W) => HW.out W h m _ hxm)
          rw [hdf] at HWm
          clear hdf hxm
          gi_wp2
          refine region_roundOld (by kernel_rfl) ?hlets (by kernel_rfl) (fun wd hHeld hSz => ?_)
          case hlets => rintro ⟨_, _, h⟩; exact h
          have HSz := Lib.hid hSz
          clear hSz
          refine takeL (i := 0) (v := ?_) rfl (by kernel_rfl) (by kernel_rfl) (by kernel_rfl) (fun _ _ _ h => h) (Or.inl ⟨by rfl, ?_⟩) hHeld ?_
          rotate_left
          focus (intro wq hSw; obtain ⟨q0, q1, q2, q4⟩ := HF.out wq (HS.out.1.below hSw); have qk := (HS.out.2.1.below hSw).cell 0; simp only [List.getElem?_toArray, List.getElem?_cons_zero] at qk; have qw := HWm.out wq (HS.out.1.below hSw); clear hSw; go_simp; try with_reducible rfl)
          try simp only [Act.put, List.setIfInBounds_toArray, List.set_cons_zero, List.set_cons_succ]
          refine takeL (i := 1) (v := ?_) rfl (by kernel_rfl) (by kernel_rfl) (by kernel_rfl) (fun _ _ _ h => h) (Or.inl ⟨by rfl, ?_⟩) hHeld ?_
          rotate_left
          focus (intro wq hSw; obtain ⟨q0, q1, q2, q4⟩ := HF.out wq (HS.out.1.below hSw); have qk := (HS.out.2.1.below hSw).cell 0; simp only [List.getElem?_toArray, List.getElem?_cons_zero] at qk; have qw := HWm.out wq (HS.out.1.below hSw); clear hSw; go_simp; try with_reducible rfl)
          try simp only [Act.put, List.setIfInBounds_toArray, List.set_cons_zero, List.set_cons_succ]
          refine takeL (i := 2) (v := ?_) rfl (by kernel_rfl) (by kernel_rfl) (by kernel_rfl) (fun _ _ _ h => h) (Or.inl ⟨by rfl, ?_⟩) hHeld ?_
          rotate_left
          focus (intro wq hSw; clear hSw; go_simp; try with_reducible rfl)
          try simp only [Act.put, List.setIfInBounds_toArray, List.set_cons_zero, List.set_cons_succ]
          refine takeL (i := 3) (v := ?_) rfl (by kernel_rfl) (by kernel_rfl) (by kernel_rfl) (fun _ _ _ h => h) (Or.inl ⟨by rfl, ?_⟩) hHeld ?_
          rotate_left
          focus (intro wq hSw; clear hSw; go_simp; try with_reducible rfl)
          try simp only [Act.put, List.setIfInBounds_toArray, List.set_cons_zero, List.set_cons_succ]
          refine takeL (i := 4) (v := ?_) rfl (by kernel_rfl) (by kernel_rfl) (by kernel_rfl) (fun _ _ _ h => h) (Or.inl ⟨by rfl, ?_⟩) hHeld ?_
          rotate_left
          focus (intro wq hSw; obtain ⟨q0, q1, q2, q4⟩ := HF.out wq (HS.out.1.below hSw); have qk := (HS.out.2.1.below hSw).cell 0; simp only [List.getElem?_toArray, List.getElem?_cons_zero] at qk; have qw := HWm.out wq (HS.out.1.below hSw); clear hSw; go_simp; try with_reducible rfl)
          try simp only [Act.put, List.setIfInBounds_toArray, List.set_cons_zero, List.set_cons_succ]
          refine takeL (i := 5) (v := ?_) rfl (by kernel_rfl) (by kernel_rfl) (by kernel_rfl) (fun _ _ _ h => h) (Or.inl ⟨by rfl, ?_⟩) hHeld ?_
          rotate_left
          focus (intro wq hSw; clear hSw; go_simp; try with_reducible rfl)
          try simp only [Act.put, List.setIfInBounds_toArray, List.set_cons_zero, List.set_cons_succ]
          refine takeL (i := 6) (v := ?_) rfl (by kernel_rfl) (by kernel_rfl) (by kernel_rfl) (fun _ _ _ h => h) (Or.inl ⟨by rfl, ?_⟩) hHeld ?_
          rotate_left
          focus (intro wq hSw; clear hSw; go_simp; try with_reducible rfl)
          try simp only [Act.put, List.setIfInBounds_toArray, List.set_cons_zero, List.set_cons_succ]
          refine takeL (i := 7) (v := ?_) rfl (by kernel_rfl) (by kernel_rfl) (by kernel_rfl) (fun _ _ _ h => h) (Or.inl ⟨by rfl, ?_⟩) hHeld ?_
          rotate_left
          focus (intro wq hSw; clear hSw; go_simp; try with_reducible rfl)
          try simp only [Act.put, List.setIfInBounds_toArray, List.set_cons_zero, List.set_cons_succ]
          refine takeL (i := 8) (v := ?_) rfl (by kernel_rfl) (by kernel_rfl) (by kernel_rfl) (fun _ _ _ h => h) (Or.inl ⟨by rfl, ?_⟩) hHeld ?_
          rotate_left
          focus (intro wq hSw; obtain ⟨q0, q1, q2, q4⟩ := HF.out wq (HS.out.1.below hSw); have qk := (HS.out.2.1.below hSw).cell 0; simp only [List.getElem?_toArray, List.getElem?_cons_zero] at qk; have qw := HWm.out wq (HS.out.1.below hSw); clear hSw; go_simp; try with_reducible rfl)
          try simp only [Act.put, List.setIfInBounds_toArray, List.set_cons_zero, List.set_cons_succ]
          refine takeL (i := 9) (v := ?_) rfl (by kernel_rfl) (by kernel_rfl) (by kernel_rfl) (fun _ _ _ h => h) (Or.inl ⟨by rfl, ?_⟩) hHeld ?_
          rotate_left
          focus (intro wq hSw; clear hSw; go_simp; try with_reducible rfl)
          try simp only [Act.put, List.setIfInBounds_toArray, List.set_cons_zero, List.set_cons_succ]
          refine takeL (i := 10) (v := ?_) rfl (by kernel_rfl) (by kernel_rfl) (by kernel_rfl) (fun _ _ _ h => h) (Or.inl ⟨by rfl, ?_⟩) hHeld ?_
          rotate_left
          focus (intro wq hSw; clear hSw; go_simp; try with_reducible rfl)
          try simp only [Act.put, List.setIfInBounds_toArray, List.set_cons_zero, List.set_cons_succ]
          refine takeL (i := 11) (v := ?_) rfl (by kernel_rfl) (by kernel_rfl) (by kernel_rfl) (fun _ _ _ h => h) (Or.inl ⟨by rfl, ?_⟩) hHeld ?_
          rotate_left
          focus (intro wq hSw; obtain ⟨q0, q1, q2, q4⟩ := HF.out wq (HS.out.1.below hSw); have qk := (HS.out.2.1.below hSw).cell 0; simp only [List.getElem?_toArray, List.getElem?_cons_zero] at qk; have qw := HWm.out wq (HS.out.1.below hSw); clear hSw; go_simp; try with_reducible rfl)
          try simp only [Act.put, List.setIfInBounds_toArray, List.set_cons_zero, List.set_cons_succ]
          refine takeL (i := 12) (v := ?_) rfl (by kernel_rfl) (by kernel_rfl) (by kernel_rfl) (fun _ _ _ h => h) (Or.inl ⟨by rfl, ?_⟩) hHeld ?_
          rotate_left
          focus (intro wq hSw; obtain ⟨q0, q1, q2, q4⟩ := HF.out wq (HS.out.1.below hSw); have qk := (HS.out.2.1.below hSw).cell 0; simp only [List.getElem?_toArray, List.getElem?_cons_zero] at qk; have qw := HWm.out wq (HS.out.1.below hSw); clear hSw; go_simp; try with_reducible rfl)
          try simp only [Act.put, List.setIfInBounds_toArray, List.set_cons_zero, List.set_cons_succ]
          refine takeL (i := 13) (v := ?_) rfl (by kernel_rfl) (by kernel_rfl) (by kernel_rfl) (fun _ _ _ h => h) (Or.inl ⟨by rfl, ?_⟩) hHeld ?_
          rotate_left
          focus (intro wq hSw; clear hSw; go_simp; try with_reducible rfl)
          try simp only [Act.put, List.setIfInBounds_toArray, List.set_cons_zero, List.set_cons_succ]
          refine takeL (i := 14) (v := ?_) rfl (by kernel_rfl) (by kernel_rfl) (by kernel_rfl) (fun _ _ _ h => h) (Or.inl ⟨by rfl, ?_⟩) hHeld ?_
          rotate_left
          focus (intro wq hSw; obtain ⟨q0, q1, q2, q4⟩ := HF.out wq (HS.out.1.below hSw); have qk := (HS.out.2.1.below hSw).cell 0; simp only [List.getElem?_toArray, List.getElem?_cons_zero] at qk; have qw := HWm.out wq (HS.out.1.below hSw); clear hSw; go_simp; try with_reducible rfl)
          try simp only [Act.put, List.setIfInBounds_toArray, List.set_cons_zero, List.set_cons_succ]
          refine takeL (i := 15) (v := ?_) rfl (by kernel_rfl) (by kernel_rfl) (by kernel_rfl) (fun _ _ _ h => h) (Or.inl ⟨by rfl, ?_⟩) hHeld ?_
          rotate_left
          focus (intro wq hSw; clear hSw; go_simp; try with_reducible rfl)
          try simp only [Act.put, List.setIfInBounds_toArray, List.set_cons_zero, List.set_cons_succ]
          refine takeL (i := 16) (v := ?_) rfl (by kernel_rfl) (by kernel_rfl) (by kernel_rfl) (fun _ _ _ h => h) (Or.inl ⟨by rfl, ?_⟩) hHeld ?_
          rotate_left
          focus (intro wq hSw; clear hSw; go_simp; try with_reducible rfl)
          try simp only [Act.put, List.setIfInBounds_toArray, List.set_cons_zero, List.set_cons_succ]
          refine wpAnyH_done (by kernel_rfl) ?_ _
          simp only [Exit.then]
          have hO5 := HS.out.1.below hHeld
          have hB5 := HS.out.2.1.below hHeld
          have HS5 := Lib.hid (And.intro hO5 (And.intro hB5 hHeld))
          clear hO5 hB5 hHeld k0 g0
          have hge3 : ¬ (s.secs.length ≤ m) := by omega
          have hge4 : decide ((s.secs.length : Int) ≤ (m : Int)) = false := decide_eq_false (by omega)
          gi_wp2
          refine region_roundOld (by kernel_rfl) ?hlets2 (by kernel_rfl) (fun wd hHeld hSz => ?_)
          case hlets2 => rintro ⟨_, _, h⟩; exact h
          have HSz := Lib.hid hSz
          clear hSz
          refine takeL (i := 0) (v := ?_) rfl (by kernel_rfl) (by kernel_rfl) (by kernel_rfl) (fun _ _ _ h => h) (Or.inl ⟨by rfl, ?_⟩) hHeld ?_
          rotate_left
          focus (intro wq hSw; obtain ⟨q0, q1, q2, q4⟩ := HF.out wq (HS5.out.1.below hSw); have qk := (HS5.out.2.1.below hSw).cell 0; simp only [List.getElem?_toArray, List.getElem?_cons_zero] at qk; clear hSw; go_simp; try with_reducible rfl)
          try simp only [Act.put, List.setIfInBounds_toArray, List.set_cons_zero, List.set_cons_succ]
          refine takeL (i := 1) (v := ?_) rfl (by kernel_rfl) (by kernel_rfl) (by kernel_rfl) (fun _ _ _ h => h) (Or.inl ⟨by rfl, ?_⟩) hHeld ?_
          rotate_left
          focus (intro wq hSw; obtain ⟨q0, q1, q2, q4⟩ := HF.out wq (HS5.out.1.below hSw); have qk := (HS5.out.2.1.below hSw).cell 0; simp only [List.getElem?_toArray, List.getElem?_cons_zero] at qk; clear hSw; go_simp; try with_reducible rfl)
          try simp only [Act.put, List.setIfInBounds_toArray, List.set_cons_zero, List.set_cons_succ]
          refine takeL (i := 2) (v := ?_) rfl (by kernel_rfl) (by kernel_rfl) (by kernel_rfl) (fun _ _ _ h => h) (Or.inl ⟨by rfl, ?_⟩) hHeld ?_
          rotate_left
          focus (intro wq hSw; clear hSw; go_simp; try with_reducible rfl)
          try simp only [Act.put, List.setIfInBounds_toArray, List.set_cons_zero, List.set_cons_succ]
          refine takeL (i := 3) (v := ?_) rfl (by kernel_rfl) (by kernel_rfl) (by kernel_rfl) (fun _ _ _ h => h) (Or.inl ⟨by rfl, ?_⟩) hHeld ?_
          rotate_left
          focus (intro wq hSw; clear hSw; go_simp; try with_reducible rfl)
          try simp only [Act.put, List.setIfInBounds_toArray, List.set_cons_zero, List.set_cons_succ]
          refine takeL (i := 4) (v := ?_) rfl (by kernel_rfl) (by kernel_rfl) (by kernel_rfl) (fun _ _ _ h => h) (Or.inl ⟨by rfl, ?_⟩) hHeld ?_
          rotate_left
          focus (intro wq hSw; obtain ⟨q0, q1, q2, q4⟩ := HF.out wq (HS5.out.1.below hSw); have qk := (HS5.out.2.1.below hSw).cell 0; simp only [List.getElem?_toArray, List.getElem?_cons_zero] at qk; clear hSw; go_simp; try with_reducible rfl)
          try simp only [Act.put, List.setIfInBounds_toArray, List.set_cons_zero, List.set_cons_succ]
          refine takeL (i := 5) (v := ?_) rfl (by kernel_rfl) (by kernel_rfl) (by kernel_rfl) (fun _ _ _ h => h) (Or.inl ⟨by rfl, ?_⟩) hHeld ?_
          rotate_left
          focus (intro wq hSw; clear hSw; go_simp; try with_reducible rfl)
          try simp only [Act.put, List.setIfInBounds_toArray, List.set_cons_zero, List.set_cons_succ]
          refine takeL (i := 6) (v := ?_) rfl (by kernel_rfl) (by kernel_rfl) (by kernel_rfl) (fun _ _ _ h => h) (Or.inl ⟨by rfl, ?_⟩) hHeld ?_
          rotate_left
          focus (intro wq hSw; clear hSw; go_simp; try with_reducible rfl)
          try simp only [Act.put, List.setIfInBounds_toArray, List.set_cons_zero, List.set_cons_succ]
          refine takeL (i := 7) (v := ?_) rfl (by kernel_rfl) (by kernel_rfl) (by kernel_rfl) (fun _ _ _ h => h) (Or.inl ⟨by rfl, ?_⟩) hHeld ?_
          rotate_left
          focus (intro wq hSw; clear hSw; go_simp; try with_reducible rfl)
          try simp only [Act.put, List.setIfInBounds_toArray, List.set_cons_zero, List.set_cons_succ]
          refine takeL (i := 8) (v := ?_) rfl (by kernel_rfl) (by kernel_rfl) (by kernel_rfl) (fun _ _ _ h => h) (Or.inl ⟨by rfl, ?_⟩) hHeld ?_
          rotate_left
          focus (intro wq hSw; clear hSw; go_simp; try with_reducible rfl)
          try simp only [Act.put, List.setIfInBounds_toArray, List.set_cons_zero, List.set_cons_succ]
          refine takeL (i := 9) (v := ?_) rfl (by kernel_rfl) (by kernel_rfl) (by kernel_rfl) (fun _ _ _ h => h) (Or.inl ⟨by rfl, ?_⟩) hHeld ?_
          rotate_left
          focus (intro wq hSw; obtain ⟨q0, q1, q2, q4⟩ := HF.out wq (HS5.out.1.below hSw); have qk := (HS5.out.2.1.below hSw).cell 0; simp only [List.getElem?_toArray, List.getElem?_cons_zero] at qk; clear hSw; go_simp; try with_reducible rfl)
          try simp only [Act.put, List.setIfInBounds_toArray, List.set_cons_zero, List.set_cons_succ]
          refine takeL (i := 10) (v := ?_) rfl (by kernel_rfl) (by kernel_rfl) (by kernel_rfl) (fun _ _ _ h => h) (Or.inl ⟨by rfl, ?_⟩) hHeld ?_
          rotate_left
          focus (intro wq hSw; clear hSw; go_simp; try with_reducible rfl)
          try simp only [Act.put, List.setIfInBounds_toArray, List.set_cons_zero, List.set_cons_succ]
          refine takeL (i := 11) (v := ?_) rfl (by kernel_rfl) (by kernel_rfl) (by kernel_rfl) (fun _ _ _ h => h) (Or.inl ⟨by rfl, ?_⟩) hHeld ?_
          rotate_left
          focus (intro wq hSw; clear hSw; go_simp; try with_reducible rfl)
          try simp only [Act.put, List.setIfInBounds_toArray, List.set_cons_zero, List.set_cons_succ]
          refine wpAnyH_done (by kernel_rfl) ?_ _
          simp only [Exit.then]
          have HS6 := Lib.hid hHeld
          clear hHeld
          gi_wp2
          have hTT := (HS.out.2.2.trans (Turn.of_below [X + 1] HS5.out.2.2) (fun x hx => .inl hx)).trans (Turn.of_below [X + 1] HS6.out) (fun x hx => .inl hx)
          have hz := HZ.out.2.2.1
          have hb1 := HX.out.1.turn hTT (by simp)
          have hI5 := HS5.out.1.below HS6.out
          refine ⟨⟨[X + 1], hTT, by simp; omega, by simp; omega⟩, ⟨hb1, ?_, hI5⟩, hb1.cell 0, HD.out.1.below hI5.old⟩
          rw [HX.out.2.2.2.2.2]
          exact HS5.out.2.1.below HS6.out
    case hdone =>
      rintro W hlt ⟨hb1, hb2, hI⟩ hKd
      have hge := wetPos_ge s (s.wet s.secs.length).length
      have hle := wetPos_end s
      have hend := Lib.hid (wet_end s)
      have c0 := hb2.cell 0
      have f0 := hb2.frozen 0
      simp only [List.getElem?_toArray, List.getElem?_cons_zero] at c0
      have HX := Lib.hid (And.intro hb2 (And.intro hI (And.intro hKd hlt)))
      clear hb1 hb2 hI hKd hlt
      go_wp2_with fail
      go_loopw [] (fun wr => ∃ m : Nat, m ≤ s.secs.length ∧ wetPos s (s.wet s.secs.length).length < m ∧ Blk wr (X + 1) 3 #[.int .i64 (m : Int)] ∧ SmI w p wr ∧ Turn [X + 1] W wr) (fun wr => s.secs.length - (intOf ((wr.cell? ⟨X + 1, 0, none⟩).getD undef)).toNat)
      case atStart =>
        obtain ⟨q, hq⟩ : ∃ q : Nat, wetPos s (s.wet s.secs.length).length + 1 = q := ⟨(wetPos s (s.wet s.secs.length).length + 1).toNat, by omega⟩
        rw [hq]
        have hT := (Turn.refl [X + 1] W).setCell (p := ⟨X + 1, 0, none⟩) (.inl (by simp)) (.int .i64 (q : Int))
        exact ⟨q, by omega, by omega, HX.out.1.set_ 0 _, HX.out.2.1.turn hT (by have := HZ.out.2.2.2.2; simp; omega), hT⟩
      case round =>
        obtain ⟨m, hml, hmk, hB, hS, hT⟩ := hrel
        have hm0 : (0 : Int) ≤ m := by omega
        have hmm : (m : Int) ≤ 65536 := by omega
        have HS := Lib.hid (And.intro hS (And.intro hB hT))
        clear hB hS hT c0 f0
        rcases Nat.lt_or_ge m s.secs.length with hlt2 | hge2
        · have hxm : s.secs[m]? = some s.secs[m] := List.getElem?_eq_getElem hlt2
          have hdf := hend.out m hmk _ hxm
          have HWm := Lib.hid (fun (W : World) (h : SmI w p W) => HW.out W h m _ hxm)
          rw [hdf] at HWm
          have hmi : (m : Int) < s.secs.length := by omega
          clear hdf hxm
          go_wp2_with fail
          refine region_old (by kernel_rfl) (fun wd hHeld hSz => ?_)
          have HSz := Lib.hid hSz
          clear hSz
          refine takeL (i := 0) (v := ?_) rfl (by kernel_rfl) (by kernel_rfl) (by kernel_rfl) (fun _ _ _ h => h) (Or.inl ⟨by rfl, ?_⟩) hHeld ?_
          rotate_left
          focus (intro wq hSw; obtain ⟨q0, q1, q2, q4⟩ := HF.out wq (HS.out.1.below hSw); have qk := (HS.out.2.1.below hSw).cell 0; simp only [List.getElem?_toArray, List.getElem?_cons_zero] at qk; clear hSw; go_simp; try with_reducible rfl)
          try simp only [Act.put, List.setIfInBounds_toArray, List.set_cons_zero, List.set_cons_succ]
          refine takeL (i := 1) (v := ?_) rfl (by kernel_rfl) (by kernel_rfl) (by kernel_rfl) (fun _ _ _ h => h) (Or.inl ⟨by rfl, ?_⟩) hHeld ?_
          rotate_left
          focus (intro wq hSw; obtain ⟨q0, q1, q2, q4⟩ := HF.out wq (HS.out.1.below hSw); have qk := (HS.out.2.1.below hSw).cell 0; simp only [List.getElem?_toArray, List.getElem?_cons_zero] at qk; clear hSw; go_simp; try with_reducible rfl)
          try simp only [Act.put, List.setIfInBounds_toArray, List.set_cons_zero, List.set_cons_succ]
          refine takeL (i := 2) (v := ?_) rfl (by kernel_rfl) (by kernel_rfl) (by kernel_rfl) (fun _ _ _ h => h) (Or.inl ⟨by rfl, ?_⟩) hHeld ?_
          rotate_left
          focus (intro wq hSw; clear hSw; go_simp; try with_reducible rfl)
          try simp only [Act.put, List.setIfInBounds_toArray, List.set_cons_zero, List.set_cons_succ]
          refine takeL (i := 3) (v := ?_) rfl (by kernel_rfl) (by kernel_rfl) (by kernel_rfl) (fun _ _ _ h => h) (Or.inl ⟨by rfl, ?_⟩) hHeld ?_
          rotate_left
          focus (intro wq hSw; clear hSw; go_simp; try with_reducible rfl)
          try simp only [Act.put, List.setIfInBounds_toArray, List.set_cons_zero, List.set_cons_succ]
          refine takeL (i := 4) (v := ?_) rfl (by kernel_rfl) (by kernel_rfl) (by kernel_rfl) (fun _ _ _ h => h) (Or.inl ⟨by rfl, ?_⟩) hHeld ?_
          rotate_left
          focus (intro wq hSw; obtain ⟨q0, q1, q2, q4⟩ := HF.out wq (HS.out.1.below hSw); have qk := (HS.out.2.1.below hSw).cell 0; simp only [List.getElem?_toArray, List.getElem?_cons_zero] at qk; clear hSw; go_simp; try with_reducible rfl)
          try simp only [Act.put, List.setIfInBounds_toArray, List.set_cons_zero, List.set_cons_succ]
          refine takeL (i := 5) (v := ?_) rfl (by kernel_rfl) (by kernel_rfl) (by kernel_rfl) (fun _ _ _ h => h) (Or.inl ⟨by rfl, ?_⟩) hHeld ?_
          rotate_left
          focus (intro wq hSw; clear hSw; go_simp; try with_reducible rfl)
          try simp only [Act.put, List.setIfInBounds_toArray, List.set_cons_zero, List.set_cons_succ]
          refine takeL (i := 6) (v := ?_) rfl (by kernel_rfl) (by kernel_rfl) (by kernel_rfl) (fun _ _ _ h => h) (Or.inl ⟨by rfl, ?_⟩) hHeld ?_
          rotate_left
          focus (intro wq hSw; clear hSw; go_simp; try with_reducible rfl)
          try simp only [Act.put, List.setIfInBounds_toArray, List.set_cons_zero, List.set_cons_succ]
          refine wpAnyH_done (by kernel_rfl) ?_ _
          refine NoPanic.normal ?_
          simp only [Exit.then]
          have hO5 := HS.out.1.below hHeld
          have hB5 := HS.out.2.1.below hHeld
          have HS5 := Lib.hid (And.intro hO5 (And.intro hB5 hHeld))
          clear hO5 hB5 hHeld
          go_wp2_with fail
          refine region_old (by kernel_rfl) (fun wd hHeld hSz => ?_)
          have HSz := Lib.hid hSz
          clear hSz
          refine takeL (i := 0) (v := ?_) rfl (by kernel_rfl) (by kernel_rfl) (by kernel_rfl) (fun _ _ _ h => h) (Or.inl ⟨by rfl, ?_⟩) hHeld ?_
          rotate_left
          focus (intro wq hSw; obtain ⟨q0, q1, q2, q4⟩ := HF.out wq (HS5.out.1.below hSw); have qk := (HS5.out.2.1.below hSw).cell 0; simp only [List.getElem?_toArray, List.getElem?_cons_zero] at qk; have qw := HWm.out wq (HS5.out.1.below hSw); clear hSw; go_simp; try with_reducible rfl)
          try simp only [Act.put, List.setIfInBounds_toArray, List.set_cons_zero, List.set_cons_succ]
          refine takeL (i := 1) (v := ?_) rfl (by kernel_rfl) (by kernel_rfl) (by kernel_rfl) (fun _ _ _ h => h) (Or.inl ⟨by rfl, ?_⟩) hHeld ?_
          rotate_left
          focus (intro wq hSw; clear hSw; go_simp; try with_reducible rfl)
          try simp only [Act.put, List.setIfInBounds_toArray, List.set_cons_zero, List.set_cons_succ]
          refine takeL (i := 2) (v := ?_) rfl (by kernel_rfl) (by kernel_rfl) (by kernel_rfl) (fun _ _ _ h => h) (Or.inl ⟨by rfl, ?_⟩) hHeld ?_
          rotate_left
          focus (intro wq hSw; clear hSw; go_simp; try with_reducible rfl)
          try simp only [Act.put, List.setIfInBounds_toArray, List.set_cons_zero, List.set_cons_succ]
          refine takeL (i := 3) (v := ?_) rfl (by kernel_rfl) (by kernel_rfl) (by kernel_rfl) (fun _ _ _ h => h) (Or.inl ⟨by rfl, ?_⟩) hHeld ?_
          rotate_left
          focus (intro wq hSw; obtain ⟨q0, q1, q2, q4⟩ := HF.out wq (HS5.out.1.below hSw); have qk := (HS5.out.2.1.below hSw).cell 0; simp only [List.getElem?_toArray, List.getElem?_cons_zero] at qk; have qw := HWm.out wq (HS5.out.1.below hSw); clear hSw; go_simp; try with_reducible rfl)
          try simp only [Act.put, List.setIfInBounds_toArray, List.set_cons_zero, List.set_cons_succ]
          refine takeL (i := 4) (v := ?_) rfl (by kernel_rfl) (by kernel_rfl) (by kernel_rfl) (fun _ _ _ h => h) (Or.inl ⟨by rfl, ?_⟩) hHeld ?_
          rotate_left
          focus (intro wq hSw; obtain ⟨q0, q1, q2, q4⟩ := HF.out wq (HS5.out.1.below hSw); have qk := (HS5.out.2.1.below hSw).cell 0; simp only [List.getElem?_toArray, List.getElem?_cons_zero] at qk; have qw := HWm.out wq (HS5.out.1.below hSw); clear hSw; go_simp; try with_reducible rfl)
          try simp only [Act.put, List.setIfInBounds_toArray, List.set_cons_zero, List.set_cons_succ]
          refine takeL (i := 5) (v := ?_) rfl (by kernel_rfl) (by kernel_rfl) (by kernel_rfl) (fun _ _ _ h => h) (Or.inl ⟨by rfl, ?_⟩) hHeld ?_
          rotate_left
          focus (intro wq hSw; clear hSw; go_simp; try with_reducible rfl)
          try simp only [Act.put, List.setIfInBounds_toArray, List.set_cons_zero, List.set_cons_succ]
          refine takeL (i := 6) (v := ?_) rfl (by kernel_rfl) (by kernel_rfl) (by kernel_rfl) (fun _ _ _ h => h) (Or.inl ⟨by rfl, ?_⟩) hHeld ?_
          rotate_left
          focus (intro wq hSw; obtain ⟨q0, q1, q2, q4⟩ := HF.out wq (HS5.out.1.below hSw); have qk := (HS5.out.2.1.below hSw).cell 0; simp only [List.getElem?_toArray, List.getElem?_cons_zero] at qk; have qw := HWm.out wq (HS5.out.1.below hSw); clear hSw; go_simp; try with_reducible rfl)
          try simp only [Act.put, List.setIfInBounds_toArray, List.set_cons_zero, List.set_cons_succ]
          refine wpAnyH_done (by kernel_rfl) ?_ _
          refine NoPanic.normal ?_
          simp only [Exit.then]
          have hO6 := HS5.out.1.below hHeld
          have hB6 := HS5.out.2.1.below hHeld
          have k6 := hB6.cell 0
          have g6 := hB6.frozen 0
          simp only [List.getElem?_toArray, List.getElem?_cons_zero] at k6
          have HS6 := Lib.hid (And.intro hO6 (And.intro hB6 (Old.trans HS5.out.2.2 hHeld)))
          clear hO6 hB6 hHeld
          go_wp2_with fail
          go_roundw
          case rel =>
            have hT := (Turn.refl [X + 1] wd).setCell (p := ⟨X + 1, 0, none⟩) (.inl (by simp)) (.int .i64 ((m : Int) + 1))
            refine ⟨m + 1, by omega, by omega, HS6.out.2.1.set_ 0 _, HS6.out.1.turn hT (by have := HZ.out.2.2.2.2; simp; omega), ?_⟩
            exact (HS.out.2.2.trans (Turn.of_below [X + 1] HS6.out.2.2) (fun x hx => .inl hx)).trans hT (fun x hx => .inl hx)
          case measure =>
            have hk1 := (HS6.out.2.1.set_ 0 (.int .i64 ((m : Int) + 1))).cell 0
            have hk2 := HS.out.2.1.cell 0
            simp only [List.getElem?_toArray, List.getElem?_cons_zero] at hk2
            simp at hk1
            simp [hk1, hk2, intOf]
            omega
        · obtain rfl : m = s.secs.length := by omega
          have hq1 : ¬ ((s.secs.length : Int) < s.secs.length) := by omega
          go_wp2_with fail
          refine region_old (by kernel_rfl) (fun wd hHeld hSz => ?_)
          have HSz := Lib.hid hSz
          clear hSz
          refine takeL (i := 0) (v := ?_) rfl (by kernel_rfl) (by kernel_rfl) (by kernel_rfl) (fun _ _ _ h => h) (Or.inl ⟨by rfl, ?_⟩) hHeld ?_
          rotate_left
          focus (intro wq hSw; obtain ⟨q0, q1, q2, q4⟩ := HF.out wq (HS.out.1.below hSw); have qk := (HS.out.2.1.below hSw).cell 0; simp only [List.getElem?_toArray, List.getElem?_cons_zero] at qk; clear hSw; go_simp; try with_reducible rfl)
          try simp only [Act.put, List.setIfInBounds_toArray, List.set_cons_zero, List.set_cons_succ]
          refine takeL (i := 1) (v := ?_) rfl (by kernel_rfl) (by kernel_rfl) (by kernel_rfl) (fun _ _ _ h => h) (Or.inl ⟨by rfl, ?_⟩) hHeld ?_
          rotate_left
          focus (intro wq hSw; obtain ⟨q0, q1, q2, q4⟩ := HF.out wq (HS.out.1.below hSw); have qk := (HS.out.2.1.below hSw).cell 0; simp only [List.getElem?_toArray, List.getElem?_cons_zero] at qk; clear hSw; go_simp; try with_reducible rfl)
          try simp only [Act.put, List.setIfInBounds_toArray, List.set_cons_zero, List.set_cons_succ]
          refine takeL (i := 2) (v := ?_) rfl (by kernel_rfl) (by kernel_rfl) (by kernel_rfl) (fun _ _ _ h => h) (Or.inl ⟨by rfl, ?_⟩) hHeld ?_
          rotate_left
          focus (intro wq hSw; clear hSw; go_simp; try with_reducible rfl)
          try simp only [Act.put, List.setIfInBounds_toArray, List.set_cons_zero, List.set_cons_succ]
          refine takeL (i := 3) (v := ?_) rfl (by kernel_rfl) (by kernel_rfl) (by kernel_rfl) (fun _ _ _ h => h) (Or.inl ⟨by rfl, ?_⟩) hHeld ?_
          rotate_left
          focus (intro wq hSw; clear hSw; go_simp; try with_reducible rfl)
          try simp only [Act.put, List.setIfInBounds_toArray, List.set_cons_zero, List.set_cons_succ]
          refine takeL (i := 4) (v := ?_) rfl (by kernel_rfl) (by kernel_rfl) (by kernel_rfl) (fun _ _ _ h => h) (Or.inl ⟨by rfl, ?_⟩) hHeld ?_
          rotate_left
          focus (intro wq hSw; obtain ⟨q0, q1, q2, q4⟩ := HF.out wq (HS.out.1.below hSw); have qk := (HS.out.2.1.below hSw).cell 0; simp only [List.getElem?_toArray, List.getElem?_cons_zero] at qk; clear hSw; go_simp; try with_reducible rfl)
          try simp only [Act.put, List.setIfInBounds_toArray, List.set_cons_zero, List.set_cons_succ]
          refine takeL (i := 5) (v := ?_) rfl (by kernel_rfl) (by kernel_rfl) (by kernel_rfl) (fun _ _ _ h => h) (Or.inl ⟨by rfl, ?_⟩) hHeld ?_
          rotate_left
          focus (intro wq hSw; clear hSw; go_simp; try with_reducible rfl)
          try simp only [Act.put, List.setIfInBounds_toArray, List.set_cons_zero, List.set_cons_succ]
          refine takeL (i := 6) (v := ?_) rfl (by kernel_rfl) (by kernel_rfl) (by kernel_rfl) (fun _ _ _ h => h) (Or.inl ⟨by rfl, ?_⟩) hHeld ?_
          rotate_left
          focus (intro wq hSw; clear hSw; go_simp; try with_reducible rfl)
          try simp only [Act.put, List.setIfInBounds_toArray, List.set_cons_zero, List.set_cons_succ]
          refine wpAnyH_done (by kernel_rfl) ?_ _
          refine NoPanic.normal ?_
          simp only [Exit.then]
          have hO5 := HS.out.1.below hHeld
          have a5 := hO5.ans.cell 0
          have b5 := hO5.ans.frozen 0
          simp only [List.getElem?_toArray, List.getElem?_cons_zero] at a5
          have HS5 := Lib.hid (And.intro hO5 hHeld)
          clear hO5 hHeld
          go_wp2_with fail
          have hz := HZ.out.2.2.1
          have hx := HZ.out.2.2.2.2
          have hTT := (HS.out.2.2.trans (Turn.of_below [X + 1] HS5.out.2) (fun x hx => .inl hx))
          have hT1 := (Turn.refl [w.heap.size + 1] wd).setCell (p := ⟨w.heap.size + 1, 0, none⟩) (.inl (by simp)) (.bool true)
          have hT := (Turn.refl [W0.heap.size] (wd.setCell ⟨w.heap.size + 1, 0, none⟩ (.bool true))).putObj (l := W0.heap.size) (.inl (by simp)) (.deferred none)
          have hlW := HX.out.2.2.2
          refine ret_cell rfl ((hT1.block _ (Nat.lt_of_lt_of_le (by omega) hTT.size) (by simp; omega)).trans ((hTT.block _ (by omega) (by simp; omega)).trans HX.out.2.2.1)) (v := .bool true) (res_cell rfl rfl ((HS5.out.1.ans.set_ 0 _).turn hT (by simp; omega))) ⟨rfl, ?_⟩
          exact (Old.turned (Old.turned HS5.out.1.old hT1 (by simp)) hT (by simp; omega))
    case hstop => intro _ _ _ _ _ h; exact h.elim
end Go.Proofs.Ytpfijfflfgfojaa
