/-
  The reference's sessions: Open.
-/
import Derived.Test.YtnpncbpbeikcaaaSesR1
namespace Go.Proofs.Ytnpncbpbeikcaaa
open Go.RowKit Go.Maps

/-- What a method of the reference's table has left. -/
def RDid (B r : Nat) (S : List Nat) (w : World) (v : Value) (R' : RP) (e : Ending) (w' : World) : Prop := e = .returned v ∧ ∃ S', Rb w' B r S' R' ∧ Turn S w w' ∧ InOr S S' w.heap.size
theorem RDid.same {B r : Nat} {S : List Nat} {w w' : World} {v : Value} {R : RP} (h : Rb w B r S R) (hb : Below w.heap.size w w') : RDid B r S w v R (.returned v) w' := ⟨rfl, S, h.below hb, Turn.of_below _ hb, fun _ hx => .inl hx⟩
theorem RDid.into {B r : Nat} {S : List Nat} {w w' : World} {v : Value} {R' : RP} {e : Ending} (h : RDid B r S w v R' e w') : ∃ S', e = .returned v ∧ Rb w' B r S' R' ∧ Turn S w w' ∧ InOr S S' w.heap.size := by
  obtain ⟨h0, S', h1⟩ := h
  exact ⟨S', h0, h1⟩
def RP.openW (R : RP) (conn slot : Int) (rw : Bool) : Int × Int × RP :=
  if ¬ (0 ≤ slot ∧ slot < 4) then (0, 3, R) else if 16 ≤ R.l.length then (0, 177, R) else if rw = false ∧ ruser R.who conn slot = 0 then (0, 184, R) else (R.next + 1, 0, ⟨R.l ++ [⟨R.next + 1, conn, slot, rw⟩], R.next + 1, R.who⟩)
set_option maxRecDepth 100000 in
set_option maxHeartbeats 4000000 in
theorem ropen_any (B r : Nat) (S : List Nat) (R : RP) (conn slot : Int) (rw : Bool) (w : World) (h : Rb w B r S R) (hl0 : 0 ≤ R.next) (hl1 : R.next ≤ 1000000) :
    Calls Try.prog 9 #[.pointer (some ⟨r, 0, none⟩), .int .i64 conn, .int .i64 slot, .bool rw] w (RDid B r S w (.tuple #[.int .i64 (R.openW conn slot rw).1, .int .i64 (R.openW conn slot rw).2.1]) (R.openW conn slot rw).2.2) := by
  have h0 := h
  obtain ⟨A, m, c, A2, m2, c2, hR, hS⟩ := h
  have hm : m ≤ 1000 := by rw [hR.row.len]; exact hR.s1
  have hml := hR.row.len
  obtain ⟨q0, q1, q2⟩ := hR.cells
  have f1 := hR.blk.frozen 1
  have hu := ruser_any B r S R conn slot w h0
  obtain ⟨u, hu'⟩ : ∃ u, ruser R.who conn slot = u := ⟨_, rfl⟩
  rw [hu'] at hu
  have HU := Lib.hid (And.intro hu hu')
  have H := Lib.hid (And.intro hR (And.intro hS (And.intro hml h0)))
  clear hR hS hml h0 hu hu'
  by_cases h1 : ¬ (0 ≤ slot ∧ slot < 4)
  · have hres : R.openW conn slot rw = (0, 3, R) := by unfold RP.openW; rw [if_pos h1]
    rw [hres]
    clear hres
    by_cases h1a : slot < 0
    · have d0 : decide (slot < 0) = true := decide_eq_true h1a
      go_enter Try.func9, Try.ntmps9
      go_wp2_with fail
      go_ret2
      exact RDid.same H.out.2.2.2 (Below.refl _ _)
    · have d0 : decide (slot < 0) = false := decide_eq_false h1a
      have h1b : 4 ≤ slot := by omega
      have d1 : decide (4 ≤ slot) = true := decide_eq_true h1b
      go_enter Try.func9, Try.ntmps9
      go_wp2_with fail
      go_ret2
      exact RDid.same H.out.2.2.2 (Below.refl _ _)
  have h1 : 0 ≤ slot ∧ slot < 4 := Decidable.not_not.1 h1
  have h1a : ¬ slot < 0 := by omega
  have h1b : ¬ 4 ≤ slot := by omega
  have d0 : decide (slot < 0) = false := decide_eq_false h1a
  have d1 : decide (4 ≤ slot) = false := decide_eq_false h1b
  by_cases h2 : 16 ≤ R.l.length
  · have hres : R.openW conn slot rw = (0, 177, R) := by unfold RP.openW; rw [if_neg (by simp [h1]), if_pos h2]
    rw [hres]
    have hd : decide ((16 : Int) ≤ (m : Int)) = true := decide_eq_true (by have := H.out.2.2.1; omega)
    clear h2 hres
    go_enter Try.func9, Try.ntmps9
    go_wp2_with fail
    go_ret2
    exact RDid.same H.out.2.2.2 (Below.refl _ _)
  have hd : decide ((16 : Int) ≤ (m : Int)) = false := decide_eq_false (by have := H.out.2.2.1; omega)
  by_cases h3 : rw = false ∧ u = 0
  · have hres : R.openW conn slot rw = (0, 184, R) := by unfold RP.openW; rw [if_neg (by simp [h1]), if_neg h2, if_pos ⟨h3.1, by rw [HU.out.2]; exact h3.2⟩]
    rw [hres]
    obtain ⟨rfl, rfl⟩ := h3
    clear h2 hres
    go_enter Try.func9, Try.ntmps9
    go_wp2_with fail
    refine HU.out.1.mono ?_
    rintro e w1 ⟨rfl, rfl⟩
    go_wp2_with fail
    go_ret2
    exact RDid.same H.out.2.2.2 (Below.refl _ _)
  have hres : R.openW conn slot rw = (R.next + 1, 0, ⟨R.l ++ [⟨R.next + 1, conn, slot, rw⟩], R.next + 1, R.who⟩) := by unfold RP.openW; rw [if_neg (by simp [h1]), if_neg h2, if_neg (fun e => h3 ⟨e.1, by have := e.2; rw [HU.out.2] at this; exact this⟩)]
  rw [hres]
  have HN := Lib.hid (And.intro h2 h3)
  have hwrap : IntKind.i64.wrap (R.next + 1) = R.next + 1 := IntWalk.i64_in _ (by omega)
  clear h1 h2 hres
  cases rw with
  | true =>
    go_enter Try.func9, Try.ntmps9
    go_wp2_with fail
    obtain ⟨wE, hwE⟩ : ∃ wE, w.setCell ⟨r, 1, none⟩ (.int .i64 (R.next + 1)) = wE := ⟨_, rfl⟩
    have hTE : Turn [r] w wE := by rw [← hwE]; exact (Turn.refl _ _).setCell (.inl (by simp)) _
    have bE : Blk wE r 30 #[.slice A m c, .int .i64 (R.next + 1), .slice A2 m2 c2] := by
      rw [← hwE]
      have := H.out.1.blk.set_ 1 (.int .i64 (R.next + 1))
      simpa using this
    have hrow : OwnE Try.eR wE B (.slice A m c) R.l := H.out.1.row.turn hTE (fun g hg hm => by simp at hm; subst hm; exact H.out.1.row.ne H.out.1.blk (by decide) hg)
    have hwho : OwnE Try.eL wE B (.slice A2 m2 c2) R.who := H.out.1.who.turn hTE (fun g hg hm => by simp at hm; subst hm; exact H.out.1.who.ne H.out.1.blk (by decide) hg)
    have HE := Lib.hid (And.intro bE (And.intro hrow (And.intro hwho hTE)))
    rw [hwE]
    clear hwE hTE bE hrow hwho q0 q1 q2 f1
    obtain ⟨V, hV⟩ : ∃ V, (Value.slice A m c).ownBlock.toList = V := ⟨_, rfl⟩
    refine region_word (fun wz => Turn (r :: V) wE wz ∧ wz.cell? ⟨r, 1, none⟩ = some (.int .i64 (R.next + 1))) (by kernel_rfl) ⟨Turn.of_below _ (Old.drew (Old.refl wE)), HE.out.1.cell 1⟩ (fun hHeld => ?_)
    have hOld : Old wE wE.drew := Old.drew (Old.refl wE)
    obtain ⟨wd, hwd⟩ : ∃ wd, wE.drew = wd := ⟨_, rfl⟩
    rw [hwd] at hHeld hOld ⊢
    clear hwd
    have HO := Lib.hid hOld
    have HV := Lib.hid hV
    clear hOld hV
    refine takeL (i := 0) (v := ?_) rfl (by kernel_rfl) (by kernel_rfl) (by kernel_rfl) (fun _ _ _ h => h) (Or.inl ⟨by rfl, ?_⟩) hHeld ?_
    rotate_left
    focus (intro wq hSw; clear hSw; go_simp; try with_reducible rfl)
    try simp only [Act.put, List.setIfInBounds_toArray, List.set_cons_zero, List.set_cons_succ]
    refine takeL (i := 1) (v := ?_) rfl (by kernel_rfl) (by kernel_rfl) (by kernel_rfl) (fun _ _ _ h => h) (Or.inl ⟨by rfl, ?_⟩) hHeld ?_
    rotate_left
    focus (intro wq hSw; clear hSw; go_simp; try with_reducible rfl)
    try simp only [Act.put, List.setIfInBounds_toArray, List.set_cons_zero, List.set_cons_succ]
    refine takeL (i := 2) (v := ?_) rfl (by kernel_rfl) (by kernel_rfl) (by kernel_rfl) (fun _ _ _ h => h) (Or.inl ⟨by rfl, ?_⟩) hHeld ?_
    rotate_left
    focus (intro wq hSw; clear hSw; go_simp; try with_reducible rfl)
    try simp only [Act.put, List.setIfInBounds_toArray, List.set_cons_zero, List.set_cons_succ]
    refine takeL (i := 3) (v := ?_) rfl (by kernel_rfl) (by kernel_rfl) (by kernel_rfl) (fun _ _ _ h => h) (Or.inl ⟨by rfl, ?_⟩) hHeld ?_
    rotate_left
    focus (intro wq hSw; clear hSw; go_simp; try with_reducible rfl)
    try simp only [Act.put, List.setIfInBounds_toArray, List.set_cons_zero, List.set_cons_succ]
    refine takeL (i := 5) (v := ?_) rfl (by kernel_rfl) (by kernel_rfl) (by kernel_rfl) (fun _ _ _ h => h) (Or.inl ⟨by rfl, ?_⟩) hHeld ?_
    rotate_left
    focus (intro wq hSw; clear hSw; go_simp; try with_reducible rfl)
    try simp only [Act.put, List.setIfInBounds_toArray, List.set_cons_zero, List.set_cons_succ]
    refine takeL (i := 6) (v := ?_) rfl (by kernel_rfl) (by kernel_rfl) (by kernel_rfl) (fun _ _ _ h => h) (Or.inl ⟨by rfl, ?_⟩) hHeld ?_
    rotate_left
    focus (intro wq hSw; clear hSw; go_simp; try with_reducible rfl)
    try simp only [Act.put, List.setIfInBounds_toArray, List.set_cons_zero, List.set_cons_succ]
    refine takeL (i := 7) (v := ?_) rfl (by kernel_rfl) (by kernel_rfl) (by kernel_rfl) (fun _ _ _ h => h) (Or.inl ⟨by rfl, ?_⟩) hHeld ?_
    rotate_left
    focus (intro wq hSw; clear hSw; go_simp; try with_reducible rfl)
    try simp only [Act.put, List.setIfInBounds_toArray, List.set_cons_zero, List.set_cons_succ]
    refine takeL (i := 8) (v := ?_) rfl (by kernel_rfl) (by kernel_rfl) (by kernel_rfl) (fun _ _ _ h => h) (Or.inl ⟨by rfl, ?_⟩) hHeld ?_
    rotate_left
    focus (intro wq hSw; have c1 := hSw.2; clear hSw; go_simp; try with_reducible rfl)
    try simp only [Act.put, List.setIfInBounds_toArray, List.set_cons_zero, List.set_cons_succ]
    refine takeL (i := 9) (v := ?_) rfl (by kernel_rfl) (by kernel_rfl) (by kernel_rfl) (fun _ _ _ h => h) (Or.inl ⟨by rfl, ?_⟩) hHeld ?_
    rotate_left
    focus (intro wq hSw; clear hSw; go_simp; try with_reducible rfl)
    try simp only [Act.put, List.setIfInBounds_toArray, List.set_cons_zero, List.set_cons_succ]
    refine takeL (i := 10) (v := ?_) rfl (by kernel_rfl) (by kernel_rfl) (by kernel_rfl) (fun _ _ _ h => h) (Or.inl ⟨by rfl, ?_⟩) hHeld ?_
    rotate_left
    focus (intro wq hSw; clear hSw; go_simp; try with_reducible rfl)
    try simp only [Act.put, List.setIfInBounds_toArray, List.set_cons_zero, List.set_cons_succ]
    refine takeL (i := 11) (v := ?_) rfl (by kernel_rfl) (by kernel_rfl) (by kernel_rfl) (fun _ _ _ h => h) (Or.inl ⟨by rfl, ?_⟩) hHeld ?_
    rotate_left
    focus (intro wq hSw; clear hSw; go_simp; try with_reducible rfl)
    try simp only [Act.put, List.setIfInBounds_toArray, List.set_cons_zero, List.set_cons_succ]
    refine takeL (i := 12) (v := ?_) rfl (by kernel_rfl) (by kernel_rfl) (by kernel_rfl) (fun _ _ _ h => h) (Or.inl ⟨by rfl, ?_⟩) hHeld ?_
    rotate_left
    focus (intro wq hSw; clear hSw; go_simp; try with_reducible rfl)
    try simp only [Act.put, List.setIfInBounds_toArray, List.set_cons_zero, List.set_cons_succ]
    refine wpAnyH_ready (rs := [4, 13]) (by kernel_rfl) (by simp) ?_
    refine consL rfl (fun K hK => ?_) (consL rfl (fun K hK => ?_) AllReadyH.nil)
    · have g4 := (HE.out.1.below HO.out).cell 0
      simp only [List.getElem?_toArray, List.getElem?_cons_succ, List.getElem?_cons_zero] at g4
      go_simp
      refine hK.out _ _ hHeld (fun hHeld => ?_)
      clear hK K g4
      try simp only [Act.put, List.setIfInBounds_toArray, List.set_cons_zero, List.set_cons_succ]
      refine wpAnyH_ready (rs := [13]) (by kernel_rfl) (by simp) ?_
      refine consL rfl (fun K hK => ?_) AllReadyH.nil
      go_simp
      have hz : Turn (r :: V) wE (wd.alloc (.cells #[.int .i64 (R.next + 1), .int .i64 conn, .int .i64 slot, .bool true] 61)) ∧ (wd.alloc (.cells #[.int .i64 (R.next + 1), .int .i64 conn, .int .i64 slot, .bool true] 61)).cell? ⟨r, 1, none⟩ = some (.int .i64 (R.next + 1)) := ⟨hHeld.1.alloc _, ((HE.out.1.below HO.out).alloc _).cell 1⟩
      refine hK.out _ _ hz (fun hHeld => ?_)
      clear hK K hz
      try simp only [Act.put, List.setIfInBounds_toArray, List.set_cons_zero, List.set_cons_succ]
      refine wpAnyH_ready (rs := [14]) (by kernel_rfl) (by simp) ?_
      refine consL rfl (fun K hK => ?_) AllReadyH.nil
      have hal : Below wd.heap.size wd (wd.alloc (.cells #[.int .i64 (R.next + 1), .int .i64 conn, .int .i64 slot, .bool true] 61)) := (Below.refl _ _).alloc (Nat.le_refl _) _
      refine step_appE Try.eR (.tmp 42) (.tmp 51) B (.slice A m c) R.l ((HE.out.2.1.below HO.out).below hal) (by have := H.out.1.blk.lt; have := H.out.1.lr; have := HE.out.2.2.2.size; have := HO.out.size; have := hal.size; omega) (some ⟨wd.heap.size, 0, none⟩) 1 1 [⟨R.next + 1, conn, slot, true⟩] (Blk.rdC Try.eR (Blk.new wd 61 _) rfl) (fun h => by cases h) (by have := H.out.1.s1; simp; omega) rfl rfl rfl rfl ?_
      intro A9 n9 c9 w9 hG
      have b9 : Blk w9 r 30 #[.slice A m c, .int .i64 (R.next + 1), .slice A2 m2 c2] := ((HE.out.1.below HO.out).below hal).keep (hG.grown.block _ ((HE.out.1.below HO.out).below hal).lt (fun e => HE.out.2.1.ne HE.out.1 (by decide) e.symm))
      have hz : Turn (r :: V) wE w9 ∧ w9.cell? ⟨r, 1, none⟩ = some (.int .i64 (R.next + 1)) := ⟨hHeld.1.grown hG.grown (fun k hk => .inl (by rw [← HV.out]; simp [hk])), b9.cell 1⟩
      have f9 := b9.frozen 0
      have H9 := Lib.hid (And.intro hG (And.intro b9 (And.intro hz.1 hal)))
      refine hK.out _ _ hz (fun hHeld => ?_)
      clear hK K hz hG b9 hal
      try simp only [Act.put, List.setIfInBounds_toArray, List.set_cons_zero, List.set_cons_succ]
      refine takeL (i := 15) (v := ?_) rfl (by kernel_rfl) (by kernel_rfl) (by kernel_rfl) (fun _ _ _ h => h) (Or.inl ⟨by rfl, ?_⟩) hHeld ?_
      rotate_left
      focus (intro wq hSw; clear hSw; go_simp; try with_reducible rfl)
      try simp only [Act.put, List.setIfInBounds_toArray, List.set_cons_zero, List.set_cons_succ]
      refine takeL (i := 16) (v := ?_) rfl (by kernel_rfl) (by kernel_rfl) (by kernel_rfl) (fun _ _ _ h => h) (Or.inl ⟨by rfl, ?_⟩) hHeld ?_
      rotate_left
      focus (intro wq hSw; clear hSw; go_simp; try with_reducible rfl)
      try simp only [Act.put, List.setIfInBounds_toArray, List.set_cons_zero, List.set_cons_succ]
      refine wpAnyH_ready (rs := [17]) (by kernel_rfl) (by simp) ?_
      refine consL rfl (fun K hK => ?_) AllReadyH.nil
      have d9 := H9.out.2.1.cell 0
      simp only [List.getElem?_toArray, List.getElem?_cons_succ, List.getElem?_cons_zero] at d9
      go_simp
      have b10 := H9.out.2.1.set_ 0 (.slice A9 n9 c9)
      simp at b10
      have hz : Turn (r :: V) wE (w9.setCell ⟨r, 0, none⟩ (.slice A9 n9 c9)) ∧ (w9.setCell ⟨r, 0, none⟩ (.slice A9 n9 c9)).cell? ⟨r, 1, none⟩ = some (.int .i64 (R.next + 1)) := ⟨hHeld.1.setCell (.inl (by simp)) _, b10.cell 1⟩
      have H10 := Lib.hid (And.intro b10 hz.1)
      refine hK.out _ _ hz (fun hHeld => ?_)
      clear hK K f9 b10 hz d9
      try simp only [Act.put, List.setIfInBounds_toArray, List.set_cons_zero, List.set_cons_succ]
      refine wpAnyH_done (by kernel_rfl) ?_ _
      refine NoPanic.normal ?_
      clear hHeld
      have q1 := H10.out.1.cell 1
      simp only [List.getElem?_toArray, List.getElem?_cons_succ, List.getElem?_cons_zero] at q1
      go_wp2_with fail
      go_ret2
      obtain ⟨wF, hwF⟩ : ∃ wF, w9.setCell ⟨r, 0, none⟩ (.slice A9 n9 c9) = wF := ⟨_, rfl⟩
      have hT10 : Turn [r] w9 wF := by rw [← hwF]; exact (Turn.refl _ _).setCell (.inl (by simp)) _
      have hB10 := H10.out.1
      have hT11 := H10.out.2
      rw [hwF] at hB10 hT11
      try rw [hwF]
      have hrow : OwnE Try.eR wF B (.slice A9 n9 c9) (R.l ++ [⟨R.next + 1, conn, slot, true⟩]) := H9.out.1.own.turn hT10 (fun g hg hm => by simp at hm; subst hm; exact H9.out.1.own.ne H9.out.2.1 (by decide) hg)
      have hwho : OwnE Try.eL wF B (.slice A2 m2 c2) R.who := HE.out.2.2.1.turn hT11 (fun g hg hm => by
        rcases List.mem_cons.1 hm with e | e
        · subst e; exact HE.out.2.2.1.ne HE.out.1 (by decide) hg
        · rw [← HV.out] at e; obtain ⟨cs, hcs⟩ := HE.out.2.1.blk (g := g) (by simpa using e); exact HE.out.2.2.1.ne hcs (by decide) hg)
      have hTw : Turn (r :: V) w wF := (HE.out.2.2.2.more (by simp)).trans hT11 (fun x hx => .inl hx)
      refine ⟨rfl, rblocks A9 n9 c9 A2 m2 c2 r, ⟨A9, n9, c9, A2, m2, c2, ⟨hB10, hrow, hwho, H.out.1.lr, by have := HN.out.1; simp; omega, H.out.1.s2⟩, rfl⟩, hTw.more (fun x hx => ?_), fun x hx => ?_⟩
      · rw [H.out.2.1]; unfold rblocks; rw [HV.out]; rcases List.mem_cons.1 hx with e | e
        · rw [e]; simp
        · simp [e]
      · rw [H.out.2.1]; unfold rblocks at hx ⊢
        rcases List.mem_cons.1 hx with e | e
        · left; rw [e]; simp
        · rcases List.mem_append.1 e with e | e
          · rcases H9.out.1.at_ with e' | e'
            · left; rw [e'] at e; simp at e; simp [e]
            · right; rw [e'] at e; simp at e; subst e; have := HE.out.2.2.2.size; have := HO.out.size; have := H9.out.2.2.2.size; omega
          · left; simp at e; simp [e]
    · go_simp
      have hz : Turn (r :: V) wE (wd.alloc (.cells #[.int .i64 (R.next + 1), .int .i64 conn, .int .i64 slot, .bool true] 61)) ∧ (wd.alloc (.cells #[.int .i64 (R.next + 1), .int .i64 conn, .int .i64 slot, .bool true] 61)).cell? ⟨r, 1, none⟩ = some (.int .i64 (R.next + 1)) := ⟨hHeld.1.alloc _, ((HE.out.1.below HO.out).alloc _).cell 1⟩
      refine hK.out _ _ hz (fun hHeld => ?_)
      clear hK K hz
      try simp only [Act.put, List.setIfInBounds_toArray, List.set_cons_zero, List.set_cons_succ]
      refine wpAnyH_ready (rs := [4]) (by kernel_rfl) (by simp) ?_
      refine consL rfl (fun K hK => ?_) AllReadyH.nil
      have g4 := ((HE.out.1.below HO.out).alloc (.cells #[.int .i64 (R.next + 1), .int .i64 conn, .int .i64 slot, .bool true] 61)).cell 0
      simp only [List.getElem?_toArray, List.getElem?_cons_succ, List.getElem?_cons_zero] at g4
      go_simp
      refine hK.out _ _ hHeld (fun hHeld => ?_)
      clear hK K g4
      try simp only [Act.put, List.setIfInBounds_toArray, List.set_cons_zero, List.set_cons_succ]
      refine wpAnyH_ready (rs := [14]) (by kernel_rfl) (by simp) ?_
      refine consL rfl (fun K hK => ?_) AllReadyH.nil
      have hal : Below wd.heap.size wd (wd.alloc (.cells #[.int .i64 (R.next + 1), .int .i64 conn, .int .i64 slot, .bool true] 61)) := (Below.refl _ _).alloc (Nat.le_refl _) _
      refine step_appE Try.eR (.tmp 42) (.tmp 51) B (.slice A m c) R.l ((HE.out.2.1.below HO.out).below hal) (by have := H.out.1.blk.lt; have := H.out.1.lr; have := HE.out.2.2.2.size; have := HO.out.size; have := hal.size; omega) (some ⟨wd.heap.size, 0, none⟩) 1 1 [⟨R.next + 1, conn, slot, true⟩] (Blk.rdC Try.eR (Blk.new wd 61 _) rfl) (fun h => by cases h) (by have := H.out.1.s1; simp; omega) rfl rfl rfl rfl ?_
      intro A9 n9 c9 w9 hG
      have b9 : Blk w9 r 30 #[.slice A m c, .int .i64 (R.next + 1), .slice A2 m2 c2] := ((HE.out.1.below HO.out).below hal).keep (hG.grown.block _ ((HE.out.1.below HO.out).below hal).lt (fun e => HE.out.2.1.ne HE.out.1 (by decide) e.symm))
      have hz : Turn (r :: V) wE w9 ∧ w9.cell? ⟨r, 1, none⟩ = some (.int .i64 (R.next + 1)) := ⟨hHeld.1.grown hG.grown (fun k hk => .inl (by rw [← HV.out]; simp [hk])), b9.cell 1⟩
      have f9 := b9.frozen 0
      have H9 := Lib.hid (And.intro hG (And.intro b9 (And.intro hz.1 hal)))
      refine hK.out _ _ hz (fun hHeld => ?_)
      clear hK K hz hG b9 hal
      try simp only [Act.put, List.setIfInBounds_toArray, List.set_cons_zero, List.set_cons_succ]
      refine takeL (i := 15) (v := ?_) rfl (by kernel_rfl) (by kernel_rfl) (by kernel_rfl) (fun _ _ _ h => h) (Or.inl ⟨by rfl, ?_⟩) hHeld ?_
      rotate_left
      focus (intro wq hSw; clear hSw; go_simp; try with_reducible rfl)
      try simp only [Act.put, List.setIfInBounds_toArray, List.set_cons_zero, List.set_cons_succ]
      refine takeL (i := 16) (v := ?_) rfl (by kernel_rfl) (by kernel_rfl) (by kernel_rfl) (fun _ _ _ h => h) (Or.inl ⟨by rfl, ?_⟩) hHeld ?_
      rotate_left
      focus (intro wq hSw; clear hSw; go_simp; try with_reducible rfl)
      try simp only [Act.put, List.setIfInBounds_toArray, List.set_cons_zero, List.set_cons_succ]
      refine wpAnyH_ready (rs := [17]) (by kernel_rfl) (by simp) ?_
      refine consL rfl (fun K hK => ?_) AllReadyH.nil
      have d9 := H9.out.2.1.cell 0
      simp only [List.getElem?_toArray, List.getElem?_cons_succ, List.getElem?_cons_zero] at d9
      go_simp
      have b10 := H9.out.2.1.set_ 0 (.slice A9 n9 c9)
      simp at b10
      have hz : Turn (r :: V) wE (w9.setCell ⟨r, 0, none⟩ (.slice A9 n9 c9)) ∧ (w9.setCell ⟨r, 0, none⟩ (.slice A9 n9 c9)).cell? ⟨r, 1, none⟩ = some (.int .i64 (R.next + 1)) := ⟨hHeld.1.setCell (.inl (by simp)) _, b10.cell 1⟩
      have H10 := Lib.hid (And.intro b10 hz.1)
      refine hK.out _ _ hz (fun hHeld => ?_)
      clear hK K f9 b10 hz d9
      try simp only [Act.put, List.setIfInBounds_toArray, List.set_cons_zero, List.set_cons_succ]
      refine wpAnyH_done (by kernel_rfl) ?_ _
      refine NoPanic.normal ?_
      clear hHeld
      have q1 := H10.out.1.cell 1
      simp only [List.getElem?_toArray, List.getElem?_cons_succ, List.getElem?_cons_zero] at q1
      go_wp2_with fail
      go_ret2
      obtain ⟨wF, hwF⟩ : ∃ wF, w9.setCell ⟨r, 0, none⟩ (.slice A9 n9 c9) = wF := ⟨_, rfl⟩
      have hT10 : Turn [r] w9 wF := by rw [← hwF]; exact (Turn.refl _ _).setCell (.inl (by simp)) _
      have hB10 := H10.out.1
      have hT11 := H10.out.2
      rw [hwF] at hB10 hT11
      try rw [hwF]
      have hrow : OwnE Try.eR wF B (.slice A9 n9 c9) (R.l ++ [⟨R.next + 1, conn, slot, true⟩]) := H9.out.1.own.turn hT10 (fun g hg hm => by simp at hm; subst hm; exact H9.out.1.own.ne H9.out.2.1 (by decide) hg)
      have hwho : OwnE Try.eL wF B (.slice A2 m2 c2) R.who := HE.out.2.2.1.turn hT11 (fun g hg hm => by
        rcases List.mem_cons.1 hm with e | e
        · subst e; exact HE.out.2.2.1.ne HE.out.1 (by decide) hg
        · rw [← HV.out] at e; obtain ⟨cs, hcs⟩ := HE.out.2.1.blk (g := g) (by simpa using e); exact HE.out.2.2.1.ne hcs (by decide) hg)
      have hTw : Turn (r :: V) w wF := (HE.out.2.2.2.more (by simp)).trans hT11 (fun x hx => .inl hx)
      refine ⟨rfl, rblocks A9 n9 c9 A2 m2 c2 r, ⟨A9, n9, c9, A2, m2, c2, ⟨hB10, hrow, hwho, H.out.1.lr, by have := HN.out.1; simp; omega, H.out.1.s2⟩, rfl⟩, hTw.more (fun x hx => ?_), fun x hx => ?_⟩
      · rw [H.out.2.1]; unfold rblocks; rw [HV.out]; rcases List.mem_cons.1 hx with e | e
        · rw [e]; simp
        · simp [e]
      · rw [H.out.2.1]; unfold rblocks at hx ⊢
        rcases List.mem_cons.1 hx with e | e
        · left; rw [e]; simp
        · rcases List.mem_append.1 e with e | e
          · rcases H9.out.1.at_ with e' | e'
            · left; rw [e'] at e; simp at e; simp [e]
            · right; rw [e'] at e; simp at e; subst e; have := HE.out.2.2.2.size; have := HO.out.size; have := H9.out.2.2.2.size; omega
          · left; simp at e; simp [e]
  | false =>
    have hu0 : ¬ u = 0 := fun e => HN.out.2 ⟨rfl, e⟩
    have hud : decide (u = 0) = false := decide_eq_false hu0
    go_enter Try.func9, Try.ntmps9
    go_wp2_with fail
    refine HU.out.1.mono ?_
    rintro e wq ⟨rfl, rfl⟩
    go_wp2_with fail
    obtain ⟨wE, hwE⟩ : ∃ wE, w.setCell ⟨r, 1, none⟩ (.int .i64 (R.next + 1)) = wE := ⟨_, rfl⟩
    have hTE : Turn [r] w wE := by rw [← hwE]; exact (Turn.refl _ _).setCell (.inl (by simp)) _
    have bE : Blk wE r 30 #[.slice A m c, .int .i64 (R.next + 1), .slice A2 m2 c2] := by
      rw [← hwE]
      have := H.out.1.blk.set_ 1 (.int .i64 (R.next + 1))
      simpa using this
    have hrow : OwnE Try.eR wE B (.slice A m c) R.l := H.out.1.row.turn hTE (fun g hg hm => by simp at hm; subst hm; exact H.out.1.row.ne H.out.1.blk (by decide) hg)
    have hwho : OwnE Try.eL wE B (.slice A2 m2 c2) R.who := H.out.1.who.turn hTE (fun g hg hm => by simp at hm; subst hm; exact H.out.1.who.ne H.out.1.blk (by decide) hg)
    have HE := Lib.hid (And.intro bE (And.intro hrow (And.intro hwho hTE)))
    rw [hwE]
    clear hwE hTE bE hrow hwho q0 q1 q2 f1
    obtain ⟨V, hV⟩ : ∃ V, (Value.slice A m c).ownBlock.toList = V := ⟨_, rfl⟩
    refine region_word (fun wz => Turn (r :: V) wE wz ∧ wz.cell? ⟨r, 1, none⟩ = some (.int .i64 (R.next + 1))) (by kernel_rfl) ⟨Turn.of_below _ (Old.drew (Old.refl wE)), HE.out.1.cell 1⟩ (fun hHeld => ?_)
    have hOld : Old wE wE.drew := Old.drew (Old.refl wE)
    obtain ⟨wd, hwd⟩ : ∃ wd, wE.drew = wd := ⟨_, rfl⟩
    rw [hwd] at hHeld hOld ⊢
    clear hwd
    have HO := Lib.hid hOld
    have HV := Lib.hid hV
    clear hOld hV
    refine takeL (i := 0) (v := ?_) rfl (by kernel_rfl) (by kernel_rfl) (by kernel_rfl) (fun _ _ _ h => h) (Or.inl ⟨by rfl, ?_⟩) hHeld ?_
    rotate_left
    focus (intro wq hSw; clear hSw; go_simp; try with_reducible rfl)
    try simp only [Act.put, List.setIfInBounds_toArray, List.set_cons_zero, List.set_cons_succ]
    refine takeL (i := 1) (v := ?_) rfl (by kernel_rfl) (by kernel_rfl) (by kernel_rfl) (fun _ _ _ h => h) (Or.inl ⟨by rfl, ?_⟩) hHeld ?_
    rotate_left
    focus (intro wq hSw; clear hSw; go_simp; try with_reducible rfl)
    try simp only [Act.put, List.setIfInBounds_toArray, List.set_cons_zero, List.set_cons_succ]
    refine takeL (i := 2) (v := ?_) rfl (by kernel_rfl) (by kernel_rfl) (by kernel_rfl) (fun _ _ _ h => h) (Or.inl ⟨by rfl, ?_⟩) hHeld ?_
    rotate_left
    focus (intro wq hSw; clear hSw; go_simp; try with_reducible rfl)
    try simp only [Act.put, List.setIfInBounds_toArray, List.set_cons_zero, List.set_cons_succ]
    refine takeL (i := 3) (v := ?_) rfl (by kernel_rfl) (by kernel_rfl) (by kernel_rfl) (fun _ _ _ h => h) (Or.inl ⟨by rfl, ?_⟩) hHeld ?_
    rotate_left
    focus (intro wq hSw; clear hSw; go_simp; try with_reducible rfl)
    try simp only [Act.put, List.setIfInBounds_toArray, List.set_cons_zero, List.set_cons_succ]
    refine takeL (i := 5) (v := ?_) rfl (by kernel_rfl) (by kernel_rfl) (by kernel_rfl) (fun _ _ _ h => h) (Or.inl ⟨by rfl, ?_⟩) hHeld ?_
    rotate_left
    focus (intro wq hSw; clear hSw; go_simp; try with_reducible rfl)
    try simp only [Act.put, List.setIfInBounds_toArray, List.set_cons_zero, List.set_cons_succ]
    refine takeL (i := 6) (v := ?_) rfl (by kernel_rfl) (by kernel_rfl) (by kernel_rfl) (fun _ _ _ h => h) (Or.inl ⟨by rfl, ?_⟩) hHeld ?_
    rotate_left
    focus (intro wq hSw; clear hSw; go_simp; try with_reducible rfl)
    try simp only [Act.put, List.setIfInBounds_toArray, List.set_cons_zero, List.set_cons_succ]
    refine takeL (i := 7) (v := ?_) rfl (by kernel_rfl) (by kernel_rfl) (by kernel_rfl) (fun _ _ _ h => h) (Or.inl ⟨by rfl, ?_⟩) hHeld ?_
    rotate_left
    focus (intro wq hSw; clear hSw; go_simp; try with_reducible rfl)
    try simp only [Act.put, List.setIfInBounds_toArray, List.set_cons_zero, List.set_cons_succ]
    refine takeL (i := 8) (v := ?_) rfl (by kernel_rfl) (by kernel_rfl) (by kernel_rfl) (fun _ _ _ h => h) (Or.inl ⟨by rfl, ?_⟩) hHeld ?_
    rotate_left
    focus (intro wq hSw; have c1 := hSw.2; clear hSw; go_simp; try with_reducible rfl)
    try simp only [Act.put, List.setIfInBounds_toArray, List.set_cons_zero, List.set_cons_succ]
    refine takeL (i := 9) (v := ?_) rfl (by kernel_rfl) (by kernel_rfl) (by kernel_rfl) (fun _ _ _ h => h) (Or.inl ⟨by rfl, ?_⟩) hHeld ?_
    rotate_left
    focus (intro wq hSw; clear hSw; go_simp; try with_reducible rfl)
    try simp only [Act.put, List.setIfInBounds_toArray, List.set_cons_zero, List.set_cons_succ]
    refine takeL (i := 10) (v := ?_) rfl (by kernel_rfl) (by kernel_rfl) (by kernel_rfl) (fun _ _ _ h => h) (Or.inl ⟨by rfl, ?_⟩) hHeld ?_
    rotate_left
    focus (intro wq hSw; clear hSw; go_simp; try with_reducible rfl)
    try simp only [Act.put, List.setIfInBounds_toArray, List.set_cons_zero, List.set_cons_succ]
    refine takeL (i := 11) (v := ?_) rfl (by kernel_rfl) (by kernel_rfl) (by kernel_rfl) (fun _ _ _ h => h) (Or.inl ⟨by rfl, ?_⟩) hHeld ?_
    rotate_left
    focus (intro wq hSw; clear hSw; go_simp; try with_reducible rfl)
    try simp only [Act.put, List.setIfInBounds_toArray, List.set_cons_zero, List.set_cons_succ]
    refine takeL (i := 12) (v := ?_) rfl (by kernel_rfl) (by kernel_rfl) (by kernel_rfl) (fun _ _ _ h => h) (Or.inl ⟨by rfl, ?_⟩) hHeld ?_
    rotate_left
    focus (intro wq hSw; clear hSw; go_simp; try with_reducible rfl)
    try simp only [Act.put, List.setIfInBounds_toArray, List.set_cons_zero, List.set_cons_succ]
    refine wpAnyH_ready (rs := [4, 13]) (by kernel_rfl) (by simp) ?_
    refine consL rfl (fun K hK => ?_) (consL rfl (fun K hK => ?_) AllReadyH.nil)
    · have g4 := (HE.out.1.below HO.out).cell 0
      simp only [List.getElem?_toArray, List.getElem?_cons_succ, List.getElem?_cons_zero] at g4
      go_simp
      refine hK.out _ _ hHeld (fun hHeld => ?_)
      clear hK K g4
      try simp only [Act.put, List.setIfInBounds_toArray, List.set_cons_zero, List.set_cons_succ]
      refine wpAnyH_ready (rs := [13]) (by kernel_rfl) (by simp) ?_
      refine consL rfl (fun K hK => ?_) AllReadyH.nil
      go_simp
      have hz : Turn (r :: V) wE (wd.alloc (.cells #[.int .i64 (R.next + 1), .int .i64 conn, .int .i64 slot, .bool false] 61)) ∧ (wd.alloc (.cells #[.int .i64 (R.next + 1), .int .i64 conn, .int .i64 slot, .bool false] 61)).cell? ⟨r, 1, none⟩ = some (.int .i64 (R.next + 1)) := ⟨hHeld.1.alloc _, ((HE.out.1.below HO.out).alloc _).cell 1⟩
      refine hK.out _ _ hz (fun hHeld => ?_)
      clear hK K hz
      try simp only [Act.put, List.setIfInBounds_toArray, List.set_cons_zero, List.set_cons_succ]
      refine wpAnyH_ready (rs := [14]) (by kernel_rfl) (by simp) ?_
      refine consL rfl (fun K hK => ?_) AllReadyH.nil
      have hal : Below wd.heap.size wd (wd.alloc (.cells #[.int .i64 (R.next + 1), .int .i64 conn, .int .i64 slot, .bool false] 61)) := (Below.refl _ _).alloc (Nat.le_refl _) _
      refine step_appE Try.eR (.tmp 42) (.tmp 51) B (.slice A m c) R.l ((HE.out.2.1.below HO.out).below hal) (by have := H.out.1.blk.lt; have := H.out.1.lr; have := HE.out.2.2.2.size; have := HO.out.size; have := hal.size; omega) (some ⟨wd.heap.size, 0, none⟩) 1 1 [⟨R.next + 1, conn, slot, false⟩] (Blk.rdC Try.eR (Blk.new wd 61 _) rfl) (fun h => by cases h) (by have := H.out.1.s1; simp; omega) rfl rfl rfl rfl ?_
      intro A9 n9 c9 w9 hG
      have b9 : Blk w9 r 30 #[.slice A m c, .int .i64 (R.next + 1), .slice A2 m2 c2] := ((HE.out.1.below HO.out).below hal).keep (hG.grown.block _ ((HE.out.1.below HO.out).below hal).lt (fun e => HE.out.2.1.ne HE.out.1 (by decide) e.symm))
      have hz : Turn (r :: V) wE w9 ∧ w9.cell? ⟨r, 1, none⟩ = some (.int .i64 (R.next + 1)) := ⟨hHeld.1.grown hG.grown (fun k hk => .inl (by rw [← HV.out]; simp [hk])), b9.cell 1⟩
      have f9 := b9.frozen 0
      have H9 := Lib.hid (And.intro hG (And.intro b9 (And.intro hz.1 hal)))
      refine hK.out _ _ hz (fun hHeld => ?_)
      clear hK K hz hG b9 hal
      try simp only [Act.put, List.setIfInBounds_toArray, List.set_cons_zero, List.set_cons_succ]
      refine takeL (i := 15) (v := ?_) rfl (by kernel_rfl) (by kernel_rfl) (by kernel_rfl) (fun _ _ _ h => h) (Or.inl ⟨by rfl, ?_⟩) hHeld ?_
      rotate_left
      focus (intro wq hSw; clear hSw; go_simp; try with_reducible rfl)
      try simp only [Act.put, List.setIfInBounds_toArray, List.set_cons_zero, List.set_cons_succ]
      refine takeL (i := 16) (v := ?_) rfl (by kernel_rfl) (by kernel_rfl) (by kernel_rfl) (fun _ _ _ h => h) (Or.inl ⟨by rfl, ?_⟩) hHeld ?_
      rotate_left
      focus (intro wq hSw; clear hSw; go_simp; try with_reducible rfl)
      try simp only [Act.put, List.setIfInBounds_toArray, List.set_cons_zero, List.set_cons_succ]
      refine wpAnyH_ready (rs := [17]) (by kernel_rfl) (by simp) ?_
      refine consL rfl (fun K hK => ?_) AllReadyH.nil
      have d9 := H9.out.2.1.cell 0
      simp only [List.getElem?_toArray, List.getElem?_cons_succ, List.getElem?_cons_zero] at d9
      go_simp
      have b10 := H9.out.2.1.set_ 0 (.slice A9 n9 c9)
      simp at b10
      have hz : Turn (r :: V) wE (w9.setCell ⟨r, 0, none⟩ (.slice A9 n9 c9)) ∧ (w9.setCell ⟨r, 0, none⟩ (.slice A9 n9 c9)).cell? ⟨r, 1, none⟩ = some (.int .i64 (R.next + 1)) := ⟨hHeld.1.setCell (.inl (by simp)) _, b10.cell 1⟩
      have H10 := Lib.hid (And.intro b10 hz.1)
      refine hK.out _ _ hz (fun hHeld => ?_)
      clear hK K f9 b10 hz d9
      try simp only [Act.put, List.setIfInBounds_toArray, List.set_cons_zero, List.set_cons_succ]
      refine wpAnyH_done (by kernel_rfl) ?_ _
      refine NoPanic.normal ?_
      clear hHeld
      have q1 := H10.out.1.cell 1
      simp only [List.getElem?_toArray, List.getElem?_cons_succ, List.getElem?_cons_zero] at q1
      go_wp2_with fail
      go_ret2
      obtain ⟨wF, hwF⟩ : ∃ wF, w9.setCell ⟨r, 0, none⟩ (.slice A9 n9 c9) = wF := ⟨_, rfl⟩
      have hT10 : Turn [r] w9 wF := by rw [← hwF]; exact (Turn.refl _ _).setCell (.inl (by simp)) _
      have hB10 := H10.out.1
      have hT11 := H10.out.2
      rw [hwF] at hB10 hT11
      try rw [hwF]
      have hrow : OwnE Try.eR wF B (.slice A9 n9 c9) (R.l ++ [⟨R.next + 1, conn, slot, false⟩]) := H9.out.1.own.turn hT10 (fun g hg hm => by simp at hm; subst hm; exact H9.out.1.own.ne H9.out.2.1 (by decide) hg)
      have hwho : OwnE Try.eL wF B (.slice A2 m2 c2) R.who := HE.out.2.2.1.turn hT11 (fun g hg hm => by
        rcases List.mem_cons.1 hm with e | e
        · subst e; exact HE.out.2.2.1.ne HE.out.1 (by decide) hg
        · rw [← HV.out] at e; obtain ⟨cs, hcs⟩ := HE.out.2.1.blk (g := g) (by simpa using e); exact HE.out.2.2.1.ne hcs (by decide) hg)
      have hTw : Turn (r :: V) w wF := (HE.out.2.2.2.more (by simp)).trans hT11 (fun x hx => .inl hx)
      refine ⟨rfl, rblocks A9 n9 c9 A2 m2 c2 r, ⟨A9, n9, c9, A2, m2, c2, ⟨hB10, hrow, hwho, H.out.1.lr, by have := HN.out.1; simp; omega, H.out.1.s2⟩, rfl⟩, hTw.more (fun x hx => ?_), fun x hx => ?_⟩
      · rw [H.out.2.1]; unfold rblocks; rw [HV.out]; rcases List.mem_cons.1 hx with e | e
        · rw [e]; simp
        · simp [e]
      · rw [H.out.2.1]; unfold rblocks at hx ⊢
        rcases List.mem_cons.1 hx with e | e
        · left; rw [e]; simp
        · rcases List.mem_append.1 e with e | e
          · rcases H9.out.1.at_ with e' | e'
            · left; rw [e'] at e; simp at e; simp [e]
            · right; rw [e'] at e; simp at e; subst e; have := HE.out.2.2.2.size; have := HO.out.size; have := H9.out.2.2.2.size; omega
          · left; simp at e; simp [e]
    · go_simp
      have hz : Turn (r :: V) wE (wd.alloc (.cells #[.int .i64 (R.next + 1), .int .i64 conn, .int .i64 slot, .bool false] 61)) ∧ (wd.alloc (.cells #[.int .i64 (R.next + 1), .int .i64 conn, .int .i64 slot, .bool false] 61)).cell? ⟨r, 1, none⟩ = some (.int .i64 (R.next + 1)) := ⟨hHeld.1.alloc _, ((HE.out.1.below HO.out).alloc _).cell 1⟩
      refine hK.out _ _ hz (fun hHeld => ?_)
      clear hK K hz
      try simp only [Act.put, List.setIfInBounds_toArray, List.set_cons_zero, List.set_cons_succ]
      refine wpAnyH_ready (rs := [4]) (by kernel_rfl) (by simp) ?_
      refine consL rfl (fun K hK => ?_) AllReadyH.nil
      have g4 := ((HE.out.1.below HO.out).alloc (.cells #[.int .i64 (R.next + 1), .int .i64 conn, .int .i64 slot, .bool false] 61)).cell 0
      simp only [List.getElem?_toArray, List.getElem?_cons_succ, List.getElem?_cons_zero] at g4
      go_simp
      refine hK.out _ _ hHeld (fun hHeld => ?_)
      clear hK K g4
      try simp only [Act.put, List.setIfInBounds_toArray, List.set_cons_zero, List.set_cons_succ]
      refine wpAnyH_ready (rs := [14]) (by kernel_rfl) (by simp) ?_
      refine consL rfl (fun K hK => ?_) AllReadyH.nil
      have hal : Below wd.heap.size wd (wd.alloc (.cells #[.int .i64 (R.next + 1), .int .i64 conn, .int .i64 slot, .bool false] 61)) := (Below.refl _ _).alloc (Nat.le_refl _) _
      refine step_appE Try.eR (.tmp 42) (.tmp 51) B (.slice A m c) R.l ((HE.out.2.1.below HO.out).below hal) (by have := H.out.1.blk.lt; have := H.out.1.lr; have := HE.out.2.2.2.size; have := HO.out.size; have := hal.size; omega) (some ⟨wd.heap.size, 0, none⟩) 1 1 [⟨R.next + 1, conn, slot, false⟩] (Blk.rdC Try.eR (Blk.new wd 61 _) rfl) (fun h => by cases h) (by have := H.out.1.s1; simp; omega) rfl rfl rfl rfl ?_
      intro A9 n9 c9 w9 hG
      have b9 : Blk w9 r 30 #[.slice A m c, .int .i64 (R.next + 1), .slice A2 m2 c2] := ((HE.out.1.below HO.out).below hal).keep (hG.grown.block _ ((HE.out.1.below HO.out).below hal).lt (fun e => HE.out.2.1.ne HE.out.1 (by decide) e.symm))
      have hz : Turn (r :: V) wE w9 ∧ w9.cell? ⟨r, 1, none⟩ = some (.int .i64 (R.next + 1)) := ⟨hHeld.1.grown hG.grown (fun k hk => .inl (by rw [← HV.out]; simp [hk])), b9.cell 1⟩
      have f9 := b9.frozen 0
      have H9 := Lib.hid (And.intro hG (And.intro b9 (And.intro hz.1 hal)))
      refine hK.out _ _ hz (fun hHeld => ?_)
      clear hK K hz hG b9 hal
      try simp only [Act.put, List.setIfInBounds_toArray, List.set_cons_zero, List.set_cons_succ]
      refine takeL (i := 15) (v := ?_) rfl (by kernel_rfl) (by kernel_rfl) (by kernel_rfl) (fun _ _ _ h => h) (Or.inl ⟨by rfl, ?_⟩) hHeld ?_
      rotate_left
      focus (intro wq hSw; clear hSw; go_simp; try with_reducible rfl)
      try simp only [Act.put, List.setIfInBounds_toArray, List.set_cons_zero, List.set_cons_succ]
      refine takeL (i := 16) (v := ?_) rfl (by kernel_rfl) (by kernel_rfl) (by kernel_rfl) (fun _ _ _ h => h) (Or.inl ⟨by rfl, ?_⟩) hHeld ?_
      rotate_left
      focus (intro wq hSw; clear hSw; go_simp; try with_reducible rfl)
      try simp only [Act.put, List.setIfInBounds_toArray, List.set_cons_zero, List.set_cons_succ]
      refine wpAnyH_ready (rs := [17]) (by kernel_rfl) (by simp) ?_
      refine consL rfl (fun K hK => ?_) AllReadyH.nil
      have d9 := H9.out.2.1.cell 0
      simp only [List.getElem?_toArray, List.getElem?_cons_succ, List.getElem?_cons_zero] at d9
      go_simp
      have b10 := H9.out.2.1.set_ 0 (.slice A9 n9 c9)
      simp at b10
      have hz : Turn (r :: V) wE (w9.setCell ⟨r, 0, none⟩ (.slice A9 n9 c9)) ∧ (w9.setCell ⟨r, 0, none⟩ (.slice A9 n9 c9)).cell? ⟨r, 1, none⟩ = some (.int .i64 (R.next + 1)) := ⟨hHeld.1.setCell (.inl (by simp)) _, b10.cell 1⟩
      have H10 := Lib.hid (And.intro b10 hz.1)
      refine hK.out _ _ hz (fun hHeld => ?_)
      clear hK K f9 b10 hz d9
      try simp only [Act.put, List.setIfInBounds_toArray, List.set_cons_zero, List.set_cons_succ]
      refine wpAnyH_done (by kernel_rfl) ?_ _
      refine NoPanic.normal ?_
      clear hHeld
      have q1 := H10.out.1.cell 1
      simp only [List.getElem?_toArray, List.getElem?_cons_succ, List.getElem?_cons_zero] at q1
      go_wp2_with fail
      go_ret2
      obtain ⟨wF, hwF⟩ : ∃ wF, w9.setCell ⟨r, 0, none⟩ (.slice A9 n9 c9) = wF := ⟨_, rfl⟩
      have hT10 : Turn [r] w9 wF := by rw [← hwF]; exact (Turn.refl _ _).setCell (.inl (by simp)) _
      have hB10 := H10.out.1
      have hT11 := H10.out.2
      rw [hwF] at hB10 hT11
      try rw [hwF]
      have hrow : OwnE Try.eR wF B (.slice A9 n9 c9) (R.l ++ [⟨R.next + 1, conn, slot, false⟩]) := H9.out.1.own.turn hT10 (fun g hg hm => by simp at hm; subst hm; exact H9.out.1.own.ne H9.out.2.1 (by decide) hg)
      have hwho : OwnE Try.eL wF B (.slice A2 m2 c2) R.who := HE.out.2.2.1.turn hT11 (fun g hg hm => by
        rcases List.mem_cons.1 hm with e | e
        · subst e; exact HE.out.2.2.1.ne HE.out.1 (by decide) hg
        · rw [← HV.out] at e; obtain ⟨cs, hcs⟩ := HE.out.2.1.blk (g := g) (by simpa using e); exact HE.out.2.2.1.ne hcs (by decide) hg)
      have hTw : Turn (r :: V) w wF := (HE.out.2.2.2.more (by simp)).trans hT11 (fun x hx => .inl hx)
      refine ⟨rfl, rblocks A9 n9 c9 A2 m2 c2 r, ⟨A9, n9, c9, A2, m2, c2, ⟨hB10, hrow, hwho, H.out.1.lr, by have := HN.out.1; simp; omega, H.out.1.s2⟩, rfl⟩, hTw.more (fun x hx => ?_), fun x hx => ?_⟩
      · rw [H.out.2.1]; unfold rblocks; rw [HV.out]; rcases List.mem_cons.1 hx with e | e
        · rw [e]; simp
        · simp [e]
      · rw [H.out.2.1]; unfold rblocks at hx ⊢
        rcases List.mem_cons.1 hx with e | e
        · left; rw [e]; simp
        · rcases List.mem_append.1 e with e | e
          · rcases H9.out.1.at_ with e' | e'
            · left; rw [e'] at e; simp at e; simp [e]
            · right; rw [e'] at e; simp at e; subst e; have := HE.out.2.2.2.size; have := HO.out.size; have := H9.out.2.2.2.size; omega
          · left; simp at e; simp [e]
end Go.Proofs.Ytnpncbpbeikcaaa
