/-
  Modes: a stream's end: opened, end, Final, Holds.
  Modes: a stream's end: end, Final.
-/
import Derived.Test.YtiocmebcbhbcmaaZzOpenP
namespace Go.Proofs.Ytiocmebcbhbcmaa
set_option maxRecDepth 100000
open Go.RowKit

/-- GCM's text, where the tag is right. -/
def PS.open_ (s : PS) (all : List UInt8) : List UInt8 × Int :=
  if all.length < 16 then ([], 65) else
    if tagL s.E s.data (all.take (all.length - 16)) (s.E s.j) = all.drop (all.length - 16) then ((s.cn (all.take (all.length - 16))).1, 0) else ([], 64)
/-- What Final gives. -/
def PS.fin (s : PS) (all : List UInt8) : List UInt8 × Int :=
  if s.mode = 4 then ([], 0) else if s.mode = 5 then (if s.enc then (tagL s.E s.data (s.cn all).1 (s.E s.j), 0) else s.open_ all)
  else endB s.mode s.enc s.E s.D (s.blk all).2 (all.drop (16 * s.nb all.length))
/-- A stream that is over. -/
def OverAt (w : World) (d : Nat) : Prop := ∃ cs : Array Value, Blk w d 59 cs ∧ cs[11]? = some (.bool true) ∧ cs[4]? = some (.slice none 0 0) ∧ cs.toList.all Value.noByte = true
theorem OverAt.turn {w w' : World} {d : Nat} {S : List Nat} (h : OverAt w d) (ht : Turn S w w') (hd : d ∉ S) : OverAt w' d := by
  obtain ⟨cs, h1, h2⟩ := h
  exact ⟨cs, h1.turn ht hd, h2⟩
theorem OverAt.below {w w' : World} {d : Nat} (h : OverAt w d) (ht : Old w w') : OverAt w' d := h.turn (Turn.of_below [] ht) (by simp)
/-- What end leaves. -/
def EndRes (w : World) (G : List Nat) (d : Nat) (r : List UInt8 × Int) (e : Ending) (w' : World) : Prop :=
  ∃ A n c, e = .returned (.tuple #[.slice A n c, .int .i64 r.2]) ∧ Rd w' A n c r.1 ∧ (∃ cs : Array Value, Blk w' d 59 cs ∧ cs.size = 12 ∧ cs.toList.all Value.noByte = true) ∧ Turn G w w' ∧ n ≤ 100016
def FinRes (w : World) (G : List Nat) (d : Nat) (r : List UInt8 × Int) (e : Ending) (w' : World) : Prop :=
  ∃ A n c, e = .returned (.tuple #[.slice A n c, .int .i64 r.2]) ∧ Rd w' A n c r.1 ∧ OverAt w' d ∧ Turn G w w' ∧ n ≤ 100016
theorem final_over (d : Nat) (w : World) (h : OverAt w d) :
    Calls Try.prog 21 #[.pointer (some ⟨d, 0, none⟩)] w fun e w' => e = .returned (.tuple #[.slice none 0 0, .int .i64 145]) ∧ w = w' := by
  obtain ⟨cs, h1, h2, h3, _⟩ := h
  have y := h1.cell 11
  rw [h2] at y
  clear h1 h2 h3
  go_enter Try.func21, Try.ntmps21
  go_wp2_with fail
  refine bodyPost_ret (results_tmp2 rfl _ _ _) rfl ?_
  exact ⟨rfl, rfl⟩
theorem final_nil (w : World) :
    Calls Try.prog 21 #[.pointer none] w fun e w' => e = .returned (.tuple #[.slice none 0 0, .int .i64 145]) ∧ w = w' := by
  go_enter Try.func21, Try.ntmps21
  go_wp2_with fail
  refine bodyPost_ret (results_tmp2 rfl _ _ _) rfl ?_
  exact ⟨rfl, rfl⟩
theorem update_over (d : Nat) (A : Option Addr) (n c : Nat) (w : World) (h : OverAt w d) :
    Calls Try.prog 17 #[.pointer (some ⟨d, 0, none⟩), .slice A n c] w fun e w' => e = .returned (.slice none 0 0) ∧ w = w' := by
  obtain ⟨cs, h1, h2, h3, _⟩ := h
  have y := h1.cell 11
  rw [h2] at y
  clear h1 h2 h3
  go_enter Try.func17, Try.ntmps17
  go_wp2_with fail
  go_ret
  exact ⟨rfl, rfl⟩
theorem update_nil (A : Option Addr) (n c : Nat) (w : World) :
    Calls Try.prog 17 #[.pointer none, .slice A n c] w fun e w' => e = .returned (.slice none 0 0) ∧ w = w' := by
  go_enter Try.func17, Try.ntmps17
  go_wp2_with fail
  go_ret
  exact ⟨rfl, rfl⟩
theorem holds_at (d : Nat) (A : Option Addr) (n c : Nat) (w : World) (h : w.cell? ⟨d, 4, none⟩ = some (.slice A n c)) :
    Calls Try.prog 19 #[.pointer (some ⟨d, 0, none⟩)] w fun e w' => e = .returned (.int .i64 (n : Int)) ∧ w = w' := by
  go_enter Try.func19, Try.ntmps19
  go_wp2_with fail
  go_ret
  exact ⟨rfl, rfl⟩
theorem holds_nil (w : World) :
    Calls Try.prog 19 #[.pointer none] w fun e w' => e = .returned (.int .i64 0) ∧ w = w' := by
  go_enter Try.func19, Try.ntmps19
  go_wp2_with fail
  go_ret
  exact ⟨rfl, rfl⟩
theorem holds_over (d : Nat) (w : World) (h : OverAt w d) :
    Calls Try.prog 19 #[.pointer (some ⟨d, 0, none⟩)] w fun e w' => e = .returned (.int .i64 0) ∧ w = w' := by
  obtain ⟨cs, h1, h2, h3, _⟩ := h
  have y := h1.cell 4
  rw [h3] at y
  exact holds_at d none 0 0 w y
def PS.waits (s : PS) (n : Nat) : Nat := if s.mode = 4 then 0 else if s.mode = 5 then (if s.enc then 0 else n) else n - 16 * s.nb n
theorem holds_any (G : List Nat) (d : Nat) (s : PS) (all : List UInt8) (w : World) (h : StrAt w G d s all) :
    Calls Try.prog 19 #[.pointer (some ⟨d, 0, none⟩)] w fun e w' => e = .returned (.int .i64 (s.waits all.length : Int)) ∧ w = w' := by
  rcases h with ⟨hm, x, W, m, cw, L, nl, cl, h⟩ | ⟨hm, x, W, P, M, D, O, h⟩ | ⟨hm, he, x, W, P, M, D, O, h⟩ | ⟨hm, he, x, W, P, M, D, O, h⟩
  · have h1 : s.waits all.length = m := by unfold PS.waits; rw [if_neg (by omega), if_neg (by omega), h.bk.wait.rd.1, List.length_drop]
    rw [h1]
    have h2 := h.bk.bkc.c4
    rw [h.xd] at h2
    exact holds_at d W m cw w h2
  · have h1 : s.waits all.length = 0 := by unfold PS.waits; rw [if_pos hm]
    rw [h1]
    have h2 : w.cell? ⟨x.d, 4, none⟩ = some W.v := h.gc.cells.cell 4
    rw [h.xd, h.wn (.inl hm)] at h2
    exact holds_at d none 0 0 w h2
  · have h1 : s.waits all.length = 0 := by unfold PS.waits; rw [if_neg (by omega), if_pos hm, if_pos he]
    rw [h1]
    have h2 : w.cell? ⟨x.d, 4, none⟩ = some W.v := h.gc.cells.cell 4
    rw [h.xd, h.wn (.inr he)] at h2
    exact holds_at d none 0 0 w h2
  · have h1 : s.waits all.length = W.n := by unfold PS.waits; rw [if_neg (by omega), if_pos hm, if_neg (by rw [he]; decide), h.gc.wait.rd.1, h.wl]
    rw [h1]
    have h2 : w.cell? ⟨x.d, 4, none⟩ = some W.v := h.gc.cells.cell 4
    rw [h.xd] at h2
    exact holds_at d W.A W.n W.c w h2
theorem GcAt.tag (x : GX) (W P M D O : Vw) (ctr : List UInt8) (w : World) (h : GcAt w x W ctr P M D O) (h5 : x.mode = 5) (hd : D.n ≤ 100000) (A : Option Addr) (n c : Nat) (l : List UInt8) (hA : Rd w A n c l) (hn : n ≤ 100000) :
    Calls Try.prog 68 #[.pointer (some ⟨x.d, 0, none⟩), .slice A n c] w fun e w' => ∃ A' c', e = .returned (.slice A' 16 c') ∧ Own w' w.heap.size (.slice A' 16 c') (tagL (encL x.ks x.R) D.l l M.l) ∧ Old w w' :=
  tag_any x.d x.c x.K x.R x.cp x.ks _ M.A D.A A M.n M.c D.n D.c n c M.l D.l l w h.cells rfl rfl rfl h.cnt.cip h.mask (h.m16 h5) h.data hA hd hn
set_option maxHeartbeats 2000000 in
theorem opened_any (G : List Nat) (d : Nat) (s : PS) (all : List UInt8) (x : GX) (W P M D O : Vw) (w : World) (h : StrG w G d s all s.c0 [] [] x W P M D O) (hm : s.mode = 5) (he : s.enc = false) (hd : s.data.length ≤ 100000) (hn : all.length ≤ 100000) :
    Calls Try.prog 69 #[.pointer (some ⟨d, 0, none⟩)] w (EndRes w G d (s.open_ all)) := by
  have hE := h.E
  obtain ⟨xd, xm, xe, xk, xr, xw, gc, wl, pl, ol, md, wn, on, g1, g2⟩ := h
  subst xd
  have y4 : w.cell? ⟨x.d, 4, none⟩ = some (.slice W.A W.n W.c) := gc.cells.cell 4
  have hWl : W.n = all.length := by rw [gc.wait.rd.1, wl]
  have hcs : ∀ w', GcAt w' x W s.c0 P M D O → ∃ cs : Array Value, Blk w' x.d 59 cs ∧ cs.size = 12 ∧ cs.toList.all Value.noByte = true := fun w' h' => ⟨_, h'.cells, rfl, rfl⟩
  obtain ⟨RES, hRES⟩ : ∃ r, s.open_ all = r := ⟨_, rfl⟩
  rw [hRES]
  unfold PS.open_ at hRES
  by_cases h16 : all.length < 16
  · rw [if_pos h16] at hRES
    have hw : IntKind.i64.wrap ((W.n : Int) - 16) = (W.n : Int) - 16 := IntWalk.i64_in _ (by omega)
    have hlt : (W.n : Int) - 16 < 0 := by omega
    have hltd : decide ((W.n : Int) - 16 < 0) = true := decide_eq_true hlt
    have HH := Lib.hid (And.intro gc (And.intro hcs hRES))
    clear gc hcs hRES g1 g2 hm hWl h16
    go_enter Try.func69, Try.ntmps69
    go_wp2_with fail
    refine bodyPost_ret (results_tmp2 rfl _ _ _) rfl ?_
    rw [← HH.out.2.2]
    exact ⟨none, 0, 0, rfl, Rd.nil _, HH.out.2.1 w HH.out.1, Turn.refl _ _, by omega⟩
  · rw [if_neg h16] at hRES
    obtain ⟨k, hk⟩ : ∃ k, all.length - 16 = k := ⟨_, rfl⟩
    rw [hk] at hRES
    have hkn : k ≤ W.n := by omega
    have hw : IntKind.i64.wrap ((W.n : Int) - 16) = (k : Int) := by rw [IntWalk.i64_in _ (by omega)]; omega
    have hlt : ¬ ((k : Int) < 0) := by omega
    have hltd : decide ((k : Int) < 0) = false := decide_eq_false hlt
    have hDn : D.n ≤ 100000 := by have := (show Rd w D.A D.n D.c D.l from gc.data).1; rw [(md hm).2] at this; omega
    have hrW := gc.wait.rd
    rw [wl] at hrW
    have hsl := slice_to W.A W.n W.c k hrW.spot (by have := hrW.2.1; omega)
    obtain ⟨A4, n4, c4, hn4, hS4, hR4, hB4⟩ := hrW.cut_ex2 (k := k) hkn
    have HH := Lib.hid (And.intro gc (And.intro hcs (And.intro hRES (And.intro g1 (And.intro g2 (And.intro hm (And.intro hWl (And.intro hrW (And.intro hR4 md)))))))))
    have HK := Lib.hid (And.intro (show k ≤ 100000 by omega) hDn)
    clear gc hcs hRES g1 g2 hWl h16 hrW hR4 md hk hn4 hDn
    go_enter Try.func69, Try.ntmps69
    go_wp2_with fail
    refine region_old (by kernel_rfl) (fun wd hHeld hSz => ?_)
    have HSz := Lib.hid hSz
    clear hSz
    have hOd := hHeld
    refine takeL (i := 0) (v := ?_) rfl (by kernel_rfl) (by kernel_rfl) (by kernel_rfl) (fun _ _ _ h => h) (Or.inl ⟨by rfl, ?_⟩) hHeld ?_
    rotate_left
    focus (intro wq hSw; clear hSw; go_simp; try with_reducible rfl)
    try simp only [Act.put, List.setIfInBounds_toArray, List.set_cons_zero, List.set_cons_succ]
    refine takeL (i := 1) (v := ?_) rfl (by kernel_rfl) (by kernel_rfl) (by kernel_rfl) (fun _ _ _ h => h) (Or.inl ⟨by rfl, ?_⟩) hHeld ?_
    rotate_left
    focus (intro wq hSw; clear hSw; go_simp; try with_reducible rfl)
    try simp only [Act.put, List.setIfInBounds_toArray, List.set_cons_zero, List.set_cons_succ]
    refine takeL (i := 2) (v := ?_) rfl (by kernel_rfl) (by kernel_rfl) (by kernel_rfl) (fun _ _ _ h => h) (Or.inl ⟨by rfl, ?_⟩) hHeld ?_
    rotate_left
    focus (intro wq hSw; clear hSw; go_simp; try with_reducible rfl)
    try simp only [Act.put, List.setIfInBounds_toArray, List.set_cons_zero, List.set_cons_succ]
    refine takeL (i := 3) (v := ?_) rfl (by kernel_rfl) (by kernel_rfl) (by kernel_rfl) (fun _ _ _ h => h) (Or.inl ⟨by rfl, ?_⟩) hHeld ?_
    rotate_left
    focus (intro wq hSw; clear hSw; go_simp; try with_reducible rfl)
    try simp only [Act.put, List.setIfInBounds_toArray, List.set_cons_zero, List.set_cons_succ]
    refine takeL (i := 4) (v := ?_) rfl (by kernel_rfl) (by kernel_rfl) (by kernel_rfl) (fun _ _ _ h => h) (Or.inl ⟨by rfl, ?_⟩) hHeld ?_
    rotate_left
    focus (intro wq hSw; have r4 := cellOld' hSw y4; clear hSw; go_simp; try with_reducible rfl)
    try simp only [Act.put, List.setIfInBounds_toArray, List.set_cons_zero, List.set_cons_succ]
    refine takeL (i := 5) (v := ?_) rfl (by kernel_rfl) (by kernel_rfl) (by kernel_rfl) (fun _ _ _ h => h) (Or.inl ⟨by rfl, ?_⟩) hHeld ?_
    rotate_left
    focus (intro wq hSw; clear hSw; go_simp; try with_reducible rfl)
    try simp only [Act.put, List.setIfInBounds_toArray, List.set_cons_zero, List.set_cons_succ]
    refine takeL (i := 6) (v := ?_) rfl (by kernel_rfl) (by kernel_rfl) (by kernel_rfl) (fun _ _ _ h => h) (Or.inl ⟨by rfl, ?_⟩) hHeld ?_
    rotate_left
    focus (intro wq hSw; have hRun := hsl wq; clear hSw; go_simp; try with_reducible rfl)
    try simp only [Act.put, List.setIfInBounds_toArray, List.set_cons_zero, List.set_cons_succ]
    refine takeL (i := 8) (v := ?_) rfl (by kernel_rfl) (by kernel_rfl) (by kernel_rfl) (fun _ _ _ h => h) (Or.inl ⟨by rfl, ?_⟩) hHeld ?_
    rotate_left
    focus (intro wq hSw; clear hSw; go_simp; try with_reducible rfl)
    try simp only [Act.put, List.setIfInBounds_toArray, List.set_cons_zero, List.set_cons_succ]
    refine takeL (i := 9) (v := ?_) rfl (by kernel_rfl) (by kernel_rfl) (by kernel_rfl) (fun _ _ _ h => h) (Or.inl ⟨by rfl, ?_⟩) hHeld ?_
    rotate_left
    focus (intro wq hSw; clear hSw; go_simp; try with_reducible rfl)
    try simp only [Act.put, List.setIfInBounds_toArray, List.set_cons_zero, List.set_cons_succ]
    refine takeL (i := 10) (v := ?_) rfl (by kernel_rfl) (by kernel_rfl) (by kernel_rfl) (fun _ _ _ h => h) (Or.inl ⟨by rfl, ?_⟩) hHeld ?_
    rotate_left
    focus (intro wq hSw; clear hSw; go_simp; try with_reducible rfl)
    try simp only [Act.put, List.setIfInBounds_toArray, List.set_cons_zero, List.set_cons_succ]
    refine takeL (i := 11) (v := ?_) rfl (by kernel_rfl) (by kernel_rfl) (by kernel_rfl) (fun _ _ _ h => h) (Or.inl ⟨by rfl, ?_⟩) hHeld ?_
    rotate_left
    focus (intro wq hSw; have r4 := cellOld' hSw y4; clear hSw; go_simp; try with_reducible rfl)
    try simp only [Act.put, List.setIfInBounds_toArray, List.set_cons_zero, List.set_cons_succ]
    refine takeL (i := 12) (v := ?_) rfl (by kernel_rfl) (by kernel_rfl) (by kernel_rfl) (fun _ _ _ h => h) (Or.inl ⟨by rfl, ?_⟩) hHeld ?_
    rotate_left
    focus (intro wq hSw; clear hSw; go_simp; try with_reducible rfl)
    try simp only [Act.put, List.setIfInBounds_toArray, List.set_cons_zero, List.set_cons_succ]
    refine takeL (i := 13) (v := ?_) rfl (by kernel_rfl) (by kernel_rfl) (by kernel_rfl) (fun _ _ _ h => h) (Or.inl ⟨by rfl, ?_⟩) hHeld ?_
    rotate_left
    focus (intro wq hSw; have hRun := hS4 wq; clear hSw; go_simp; try with_reducible rfl)
    try simp only [Act.put, List.setIfInBounds_toArray, List.set_cons_zero, List.set_cons_succ]
    refine wpAnyH_ready (rs := [7]) (by kernel_rfl) (by simp) ?_
    refine consL rfl (fun K hK => ?_) AllReadyH.nil
    go_simp
    refine (GcAt.tag x W P M D O s.c0 wd (HH.out.1.below hOd) (by rw [xm]; exact hm) HK.out.2 W.A k W.c (all.take k) ((HH.out.2.2.2.2.2.2.2.1.below hOd).front hkn) HK.out.1).mono ?_
    rintro e wa ⟨A7, c7, rfl, hOw, hBa⟩
    refine hK.out _ _ (hHeld.trans hBa) (fun hHeld => ?_)
    clear hK K
    try simp only [Act.put, List.setIfInBounds_toArray, List.set_cons_zero, List.set_cons_succ]
    refine wpAnyH_ready (rs := [14]) (by kernel_rfl) (by simp) ?_
    refine consL rfl (fun K hK => ?_) AllReadyH.nil
    go_simp
    refine (equalB_any _ _ _ _ _ _ _ _ wa hOw.rd (HH.out.2.2.2.2.2.2.2.2.1.below (hOd.trans hBa))).mono ?_
    rintro e wb ⟨hEq, rfl⟩
    subst hEq
    obtain ⟨bq, hEq⟩ : ∃ bq, decide (tagL (encL x.ks x.R) D.l (all.take k) M.l = all.drop k) = bq := ⟨_, rfl⟩
    rw [hEq]
    refine hK.out _ _ hHeld (fun hHeld => ?_)
    clear hK K
    try simp only [Act.put, List.setIfInBounds_toArray, List.set_cons_zero, List.set_cons_succ]
    refine takeL (i := 15) (v := ?_) rfl (by kernel_rfl) (by kernel_rfl) (by kernel_rfl) (fun _ _ _ h => h) (Or.inl ⟨by rfl, ?_⟩) hHeld ?_
    rotate_left
    focus (intro wq hSw; clear hSw; go_simp; try with_reducible rfl)
    try simp only [Act.put, List.setIfInBounds_toArray, List.set_cons_zero, List.set_cons_succ]
    refine wpAnyH_done (by kernel_rfl) ?_ _
    refine NoPanic.normal ?_
    have hOa : Old w wa := hOd.trans hBa
    have HA := Lib.hid (And.intro hOa (HH.out.1.below hOa))
    have y4a := cellOld' hOa y4
    have hM5 := HH.out.2.2.2.2.2.2.2.2.2 hm
    rw [hE, hM5.1, hM5.2] at hEq
    clear hOa hOd hHeld hBa hOw
    simp only [Exit.then]
    try go_at_K
    cases hq : decide (tagL s.E s.data (all.take k) (s.E s.j) = all.drop k) with
    | true =>
      have hR := HH.out.2.2.1
      rw [if_pos (of_decide_eq_true hq)] at hR
      have hcall := count_any (x.cx W.v M.v D.v O.v) s.c0 P.A P.n P.c P.l W.A k W.c (all.take k) wa HA.out.2.cnt ((HH.out.2.2.2.2.2.2.2.1.below HA.out.1).front hkn) (fun ad e => HH.out.1.sg ad (.inl e)) HK.out.1
      rw [show (x.cx W.v M.v D.v O.v).d = x.d from rfl, show (x.cx W.v M.v D.v O.v).gc = x.gc from rfl, show (x.cx W.v M.v D.v O.v).ks = x.ks from rfl, show (x.cx W.v M.v D.v O.v).R = x.R from rfl, show (x.cx W.v M.v D.v O.v).wd = x.wd from rfl, hE, xw, pl] at hcall
      have HC := Lib.hid (And.intro hcall hR)
      clear hcall hR
      have hbq : bq = true := hEq.symm.trans hq
      subst hbq
      go_wp2_with fail
      refine HC.out.1.mono ?_
      rintro e w2 ⟨A1, n1, c1, P1, np1, q1, rfl, ho, hC, hP, hT, _⟩
      have HR := Lib.hid (And.intro ho (And.intro hC hT))
      clear ho hC hP hT
      go_wp2_with fail
      refine bodyPost_ret (results_tmp2 rfl _ _ _) rfl ?_
      have ho9 : n1 ≤ 100016 := by
        have h1 := HR.out.1.len
        have h2 := cnt1_le s.E s.wd (all.take k) [] s.c0
        rw [List.length_take] at h2
        have := HK.out.1
        rw [h1]
        exact Nat.le_trans h2 (by omega)
      rw [← HC.out.2]
      refine ⟨A1, n1, c1, rfl, HR.out.1.rd, ⟨_, HR.out.2.1.blk, by simp; rfl, all_set HR.out.2.1.ok.nob rfl⟩, ((Turn.of_below G HA.out.1).trans HR.out.2.2 (fun y hy => .inl (by simp at hy; rcases hy with rfl | rfl; exact HH.out.2.2.2.1.1; exact HH.out.2.2.2.1.2.2.2))), by have := ho9; omega⟩
    | false =>
      have hR := HH.out.2.2.1
      rw [if_neg (of_decide_eq_false hq)] at hR
      have HC := Lib.hid hR
      clear hR
      have hbq : bq = false := hEq.symm.trans hq
      subst hbq
      go_wp2_with fail
      refine bodyPost_ret (results_tmp2 rfl _ _ _) rfl ?_
      rw [← HC.out]
      exact ⟨none, 0, 0, rfl, Rd.nil _, HH.out.2.1 wa HA.out.2, Turn.of_below G HA.out.1, by omega⟩
end Go.Proofs.Ytiocmebcbhbcmaa
namespace Go.Proofs.Ytiocmebcbhbcmaa
set_option maxRecDepth 100000
open Go.RowKit

theorem PS.c0_len (s : PS) (h : parOk s.mode s.p) (hm : s.mode = 4 ∨ s.mode = 5) : s.c0.length = 16 := by
  unfold parOk at h
  rw [if_neg (by omega)] at h
  rcases hm with hm | hm
  · rw [if_pos hm] at h
    unfold PS.c0
    rw [if_pos hm, List.length_drop]
    omega
  · rw [if_neg (by omega), if_pos hm] at h
    obtain ⟨h1, h2, h3⟩ := h
    unfold PS.c0 PS.j gcmJ
    rw [if_neg (by omega), stepL_len]
    split
    · rename_i h12
      rw [List.length_append, List.length_take, List.length_drop]
      simp
      omega
    · unfold gh; simp [wr16, bytes64]
set_option maxHeartbeats 1000000 in
theorem end_any (G : List Nat) (d : Nat) (s : PS) (all : List UInt8) (w : World) (h : StrAt w G d s all) (hc0 : s.mode = 4 ∨ s.mode = 5 → s.c0.length = 16) (hd : s.data.length ≤ 100000) (hn : all.length ≤ 100000) :
    Calls Try.prog 45 #[.pointer (some ⟨d, 0, none⟩)] w (EndRes w G d (s.fin all)) := by
  rcases h with ⟨hm, x, W, m, cw, L, nl, cl, h⟩ | ⟨hm, x, W, P, M, D, O, h⟩ | ⟨hm, he, x, W, P, M, D, O, h⟩ | ⟨hm, he, x, W, P, M, D, O, h⟩
  · obtain ⟨xd, xm, xe, xk, xr, bk, g1, g2⟩ := h
    subst xd
    have hE : x.E = s.E := by unfold BX.E PS.E; rw [xk, xr]
    have hD : x.D = s.D := by unfold BX.D PS.D; rw [xk, xr]
    have hwl : m = all.length - 16 * s.nb all.length := by rw [bk.wait.rd.1]; simp
    have hf : s.fin all = endB x.mode x.enc x.E x.D (s.blk all).2 (all.drop (16 * s.nb all.length)) := by unfold PS.fin; rw [if_neg (by omega), if_neg (by omega), xm, xe, hE, hD]
    rw [hf]
    refine (endB_any x W m cw _ L nl cl _ w bk (by omega) (fun h3 he => ?_) (by omega)).mono ?_
    · have hk : s.keep = 0 := by unfold PS.keep; rw [if_neg]; rw [← xe, he]; simp
      unfold PS.nb at hwl
      rw [hk] at hwl
      omega
    · rintro e w' ⟨A, n, c, rfl, h1, ⟨W1, m1, cw1, L1, nl1, cl1, last1, h2⟩, h3, h4⟩
      refine ⟨A, n, c, rfl, h1, ⟨_, h2.blk, rfl, rfl⟩, h3.more (fun y hy => ?_), by omega⟩
      simp only [List.mem_cons] at hy
      rcases hy with rfl | hy
      · exact g1.1
      · cases W with
        | none => simp at hy
        | some ad => simp at hy; rw [hy]; exact g2 ad (.inl rfl)
  · have hf : s.fin all = ([], 0) := by unfold PS.fin; rw [if_pos hm]
    rw [hf]
    obtain ⟨xd, xm, xe, xk, xr, xw, gc, _⟩ := h
    subst xd
    have y0 := gc.cells.cell 0
    simp only [stG, List.getElem?_toArray, List.getElem?_cons_zero, List.getElem?_cons_succ] at y0
    rw [xm, hm, show ((4 : Nat) : Int) = 4 from rfl] at y0
    have HH := Lib.hid gc
    clear gc hf hm
    go_enter Try.func45, Try.ntmps45
    go_wp2_with fail
    refine bodyPost_ret (results_tmp2 rfl _ _ _) rfl ?_
    exact ⟨none, 0, 0, rfl, Rd.nil _, ⟨_, HH.out.cells, rfl, rfl⟩, Turn.refl _ _, by omega⟩
  · have hf : s.fin all = (tagL s.E s.data (s.cn all).1 (s.E s.j), 0) := by unfold PS.fin; rw [if_neg (by omega), if_pos hm, if_pos he]
    rw [hf]
    have hE := h.E
    have hlen : (s.cn all).1.length ≤ 100000 := by
      have := (cnt1_len s.E s.wd (fun l hl e => by
        have h1 : (s.E l).length = 16 := enc_ne s.ks s.R l hl (by rw [← h.xk, ← h.xr]; exact h.gc.cnt.cip.2.2.2.2.2.1)
        rw [e] at h1
        cases h1) all [] s.c0 (hc0 (.inr hm))).1
      unfold PS.cn
      omega
    obtain ⟨xd, xm, xe, xk, xr, xw, gc, wl, pl, ol, md, wn, on, g1, g2⟩ := h
    subst xd
    have y0 := gc.cells.cell 0
    have y1 := gc.cells.cell 1
    have y10 : w.cell? ⟨x.d, 10, none⟩ = some (.slice O.A O.n O.c) := gc.cells.cell 10
    simp only [stG, List.getElem?_toArray, List.getElem?_cons_zero, List.getElem?_cons_succ] at y0 y1
    rw [xm, hm, show ((5 : Nat) : Int) = 5 from rfl] at y0
    rw [xe, he] at y1
    have hOr : Rd w O.A O.n O.c (s.cn all).1 := by rw [← ol]; exact gc.out.rd
    have hDn : D.n ≤ 100000 := by have := (show Rd w D.A D.n D.c D.l from gc.data).1; rw [(md hm).2] at this; omega
    have hcall := gc.tag x W P M D O _ w (by rw [xm]; exact hm) hDn O.A O.n O.c _ hOr (by have := hOr.1; omega)
    rw [hE, (md hm).1, (md hm).2] at hcall
    have HH := Lib.hid (And.intro gc hcall)
    clear gc hcall hf hm md hOr hDn hlen
    go_enter Try.func45, Try.ntmps45
    go_wp2_with fail
    refine HH.out.2.mono ?_
    rintro e w1 ⟨A', c', rfl, ho, hB⟩
    have HR := Lib.hid (And.intro ho hB)
    clear ho hB
    go_wp2_with fail
    refine bodyPost_ret (results_tmp2 rfl _ _ _) rfl ?_
    exact ⟨A', 16, c', rfl, HR.out.1.rd, ⟨_, (HH.out.1.below HR.out.2).cells, rfl, rfl⟩, Turn.of_below G HR.out.2, by omega⟩
  · have hf : s.fin all = s.open_ all := by unfold PS.fin; rw [if_neg (by omega), if_pos hm, if_neg (by rw [he]; decide)]
    rw [hf]
    have hcall := opened_any G d s all x W P M D O w h hm he hd hn
    obtain ⟨xd, xm, xe, xk, xr, xw, gc, wl, pl, ol, md, wn, on, g1, g2⟩ := h
    subst xd
    have y0 := gc.cells.cell 0
    have y1 := gc.cells.cell 1
    simp only [stG, List.getElem?_toArray, List.getElem?_cons_zero, List.getElem?_cons_succ] at y0 y1
    rw [xm, hm, show ((5 : Nat) : Int) = 5 from rfl] at y0
    rw [xe, he] at y1
    have HH := Lib.hid hcall
    clear gc hcall hf hm md
    go_enter Try.func45, Try.ntmps45
    go_wp2_with fail
    refine HH.out.mono ?_
    rintro e w1 ⟨A', n', c', rfl, h1, h2, h3⟩
    have HR := Lib.hid (And.intro h1 (And.intro h2 h3))
    clear h1 h2 h3
    go_wp2_with fail
    refine bodyPost_ret (results_tmp2 rfl _ _ _) rfl ?_
    exact ⟨A', n', c', rfl, HR.out.1, HR.out.2.1, HR.out.2.2⟩
theorem StrAt.mem {w : World} {G : List Nat} {d : Nat} {s : PS} {all : List UInt8} (h : StrAt w G d s all) : d ∈ G ∧ w.cell? ⟨d, 11, none⟩ = some (.bool false) := by
  rcases h with ⟨hm, x, W, m, cw, L, nl, cl, h⟩ | ⟨hm, x, W, P, M, D, O, h⟩ | ⟨hm, he, x, W, P, M, D, O, h⟩ | ⟨hm, he, x, W, P, M, D, O, h⟩
  · exact ⟨h.g1.1, by have := h.bk.bkc.blk.cell 11; rw [h.xd] at this; exact this⟩
  · exact ⟨h.g1.1, by have := h.gc.cells.cell 11; rw [h.xd] at this; exact this⟩
  · exact ⟨h.g1.1, by have := h.gc.cells.cell 11; rw [h.xd] at this; exact this⟩
  · exact ⟨h.g1.1, by have := h.gc.cells.cell 11; rw [h.xd] at this; exact this⟩
set_option maxHeartbeats 1000000 in
theorem final_any (G : List Nat) (d : Nat) (s : PS) (all : List UInt8) (w : World) (h : StrAt w G d s all) (hc0 : s.mode = 4 ∨ s.mode = 5 → s.c0.length = 16) (hd : s.data.length ≤ 100000) (hn : all.length ≤ 100000) :
    Calls Try.prog 21 #[.pointer (some ⟨d, 0, none⟩)] w (FinRes w G d (s.fin all)) := by
  have hcall := end_any G d s all w h hc0 hd hn
  obtain ⟨hg, y11⟩ := h.mem
  have HH := Lib.hid (And.intro hcall hg)
  clear hcall hg h
  go_enter Try.func21, Try.ntmps21
  go_wp2_with fail
  refine HH.out.1.mono ?_
  rintro e w1 ⟨A, n, c, rfl, h1, ⟨cs, h2, h3, h4⟩, h5, h6⟩
  obtain ⟨u4, hu4⟩ : ∃ u, cs[4]? = some u := ⟨_, Array.getElem?_eq_getElem (by omega)⟩
  obtain ⟨u11, hu11⟩ : ∃ u, cs[11]? = some u := ⟨_, Array.getElem?_eq_getElem (by omega)⟩
  have z4 := h2.cell 4
  have z11 := h2.cell 11
  rw [hu4] at z4
  rw [hu11] at z11
  have f4 := h2.frozen 4
  have f11 := h2.frozen 11
  have hb := (h2.set_ 11 (.bool true)).set_ 4 (.slice none 0 0)
  have hT : Turn [d] w1 ((w1.setCell ⟨d, 11, none⟩ (.bool true)).setCell ⟨d, 4, none⟩ (.slice none 0 0)) := Turn.trans turn_put turn_put (fun y hy => .inl hy)
  have hN : ∀ g ∈ [d], NoB w1 g := fun g hg => by simp at hg; subst hg; exact NoB.of h2 h4
  have HR := Lib.hid (And.intro (h1.turnB hT hN) (And.intro hb (And.intro h3 (And.intro h4 (h5.trans hT (fun y hy => .inl (by simp at hy; subst hy; exact HH.out.2)))))))
  clear h1 h2 h3 h4 h5 hb hT hN hu4 hu11
  go_wp2_with fail
  refine bodyPost_ret (results_tmp2 rfl _ _ _) rfl ?_
  refine ⟨A, n, c, rfl, HR.out.1, ⟨_, HR.out.2.1, ?_, ?_, all_set (all_set HR.out.2.2.2.1 rfl) rfl⟩, HR.out.2.2.2.2, h6⟩
  · rw [Array.getElem?_setIfInBounds_ne (by decide), Array.getElem?_setIfInBounds_self_of_lt (by rw [HR.out.2.2.1]; decide)]
  · rw [Array.getElem?_setIfInBounds_self_of_lt (by rw [Array.size_setIfInBounds, HR.out.2.2.1]; decide)]
end Go.Proofs.Ytiocmebcbhbcmaa
