/-
  Sessions: Open.
-/
import Derived.Test.YtnpncbpbeikcaaaSes4
namespace Go.Proofs.Ytnpncbpbeikcaaa
open Go.RowKit Go.Maps

theorem region_word {P : Program} {ops : Array Oper} {Q : Exit → Act → World → Prop} {id : Nat} {a : Act} {w : World} (S : World → Prop) (hm : P.follows .mixedOrders = true) (h0 : S w.drew)
    (h : S w.drew → wpAnyH P .any ops (NoPanic Q) S ops.size (Array.replicate ops.size false) a w.drew) : (Code.region id ops true).wp P Q a w :=
  wp_region_noPanic (wp_region_held_drew hm h0 h)
/-- What a method of a table has left. -/
def Did (B p : Nat) (S : List Nat) (w : World) (v : Value) (T' : PT) (e : Ending) (w' : World) : Prop := e = .returned v ∧ ∃ S', Tb w' B p S' T' ∧ Turn S w w' ∧ InOr S S' w.heap.size
theorem Did.same {B p : Nat} {S : List Nat} {w w' : World} {v : Value} {T : PT} (h : Tb w B p S T) (hb : Below w.heap.size w w') : Did B p S w v T (.returned v) w' := ⟨rfl, S, h.below hb, Turn.of_below _ hb, fun _ hx => .inl hx⟩
def PT.user (T : PT) (a b : Int) : Int := (T.who a b).getD (-1)
def PT.added (T : PT) (conn slot : Int) (rw : Bool) : PT := ⟨T.l ++ [⟨T.last + 1, conn, slot, rw⟩], T.last + 1, T.who, T.n⟩
/-- Open, plainly: the handle, the word, the table. -/
def PT.openW (T : PT) (conn slot : Int) (rw : Bool) : Int × Int × PT :=
  if ¬ (0 ≤ slot ∧ slot < 4) then (0, 3, T) else if 16 ≤ T.l.length then (0, 177, T) else if rw = false ∧ T.user conn slot = 0 then (0, 184, T) else (T.last + 1, 0, T.added conn slot rw)
theorem openW_nil (a b : Int) (r : Bool) (w : World) : Calls Try.prog 8 #[.pointer none, .int .i64 a, .int .i64 b, .bool r] w fun e w' => e = .returned (.tuple #[.int .i64 0, .int .i64 179]) ∧ Below w.heap.size w w' := by
  have hb : Below w.heap.size w (w.alloc (.cells #[.int .i64 a, .int .i64 b] 56)) := (Below.refl _ _).alloc (Nat.le_refl _) _
  have HB := Lib.hid hb
  clear hb
  go_enter Try.func8, Try.ntmps8
  go_wp2
  go_ret2
  exact ⟨rfl, HB.out⟩
set_option maxRecDepth 100000 in
set_option maxHeartbeats 4000000 in
theorem openW_any (B p : Nat) (S : List Nat) (T : PT) (conn slot : Int) (rw : Bool) (w : World) (h : Tb w B p S T) (hl0 : 0 ≤ T.last) (hl1 : T.last ≤ 1000000) (hc : wf64 conn) (hs : wf64 slot) :
    Calls Try.prog 8 #[.pointer (some ⟨p, 0, none⟩), .int .i64 conn, .int .i64 slot, .bool rw] w (Did B p S w (.tuple #[.int .i64 (T.openW conn slot rw).1, .int .i64 (T.openW conn slot rw).2.1]) (T.openW conn slot rw).2.2) := by
  obtain ⟨A, m, c, mb, hT, rfl⟩ := h
  obtain ⟨S, hS⟩ : ∃ S, blocks A m c mb p = S := ⟨_, rfl⟩
  rw [hS]
  obtain ⟨X, hX⟩ : ∃ X, w.heap.size = X := ⟨_, rfl⟩
  obtain ⟨wA, hwA⟩ : ∃ wA, w.alloc (.cells #[.int .i64 conn, .int .i64 slot] 56) = wA := ⟨_, rfl⟩
  have bA : Blk wA X 56 #[.int .i64 conn, .int .i64 slot] := by rw [← hwA, ← hX]; exact Blk.new _ _ _
  have hbA : Below X w wA := by rw [← hwA, ← hX]; exact (Below.refl _ _).alloc (Nat.le_refl _) _
  have hTA : TbAt wA B p A m c mb T := hT.below (by rw [hX]; exact hbA)
  have hm : m ≤ 1000 := by rw [hT.row.len]; exact hT.small
  have hml := hT.row.len
  obtain ⟨q0, q1, q2⟩ := hTA.cells
  have g0 := bA.cell 0
  have g1 := bA.cell 1
  simp only [List.getElem?_toArray, List.getElem?_cons_succ, List.getElem?_cons_zero] at g0 g1
  have HT := Lib.hid (And.intro hT (And.intro hTA (And.intro bA (And.intro hbA (And.intro hX (And.intro hS hml))))))
  clear hT hTA bA hbA hS hml
  have hsame : ∀ v w', Below wA.heap.size wA w' → Did B p S w v T (.returned v) w' := fun v w' hb => Did.same ⟨A, m, c, mb, HT.out.1, HT.out.2.2.2.2.2.1.symm⟩ (by rw [HT.out.2.2.2.2.1]; exact HT.out.2.2.2.1.trans (hb.mono (by have := HT.out.2.2.2.1.size; have := HT.out.2.2.2.2.1; omega)))
  have HSm := Lib.hid hsame
  clear hsame
  by_cases h1 : ¬ (0 ≤ slot ∧ slot < 4)
  · have hres : T.openW conn slot rw = (0, 3, T) := by unfold PT.openW; rw [if_pos h1]
    rw [hres]
    have hd := decide_eq_false h1
    have HD := Lib.hid hd
    clear hd h1 hres
    go_enter Try.func8, Try.ntmps8
    go_wp2_with fail
    try rw [hwA]
    refine (slots_any slot wA).mono ?_
    rintro e w1 ⟨rfl, rfl⟩
    rw [HD.out]
    go_wp2_with fail
    go_ret2
    exact HSm.out _ _ (Below.refl _ _)
  have h1 : 0 ≤ slot ∧ slot < 4 := Decidable.not_not.1 h1
  have HD := Lib.hid (decide_eq_true h1)
  by_cases h2 : 16 ≤ T.l.length
  · have hres : T.openW conn slot rw = (0, 177, T) := by unfold PT.openW; rw [if_neg (by simp [h1]), if_pos h2]
    rw [hres]
    have hd : decide ((16 : Int) ≤ (m : Int)) = true := decide_eq_true (by have := HT.out.2.2.2.2.2.2; omega)
    clear h1 h2 hres
    go_enter Try.func8, Try.ntmps8
    go_wp2_with fail
    try rw [hwA]
    refine (slots_any slot wA).mono ?_
    rintro e w1 ⟨rfl, rfl⟩
    rw [HD.out]
    go_wp2_with fail
    go_ret2
    exact HSm.out _ _ (Below.refl _ _)
  have hd : decide ((16 : Int) ≤ (m : Int)) = false := decide_eq_false (by have := HT.out.2.2.2.2.2.2; omega)
  have hu := user_any B p S T conn slot wA ⟨A, m, c, mb, HT.out.2.1, HT.out.2.2.2.2.2.1.symm⟩ hc hs
  obtain ⟨u, hu'⟩ : ∃ u, (T.who conn slot).getD (-1) = u := ⟨_, rfl⟩
  rw [hu'] at hu
  have HU := Lib.hid (And.intro hu hu')
  clear hu hu'
  by_cases h3 : rw = false ∧ u = 0
  · have hres : T.openW conn slot rw = (0, 184, T) := by unfold PT.openW; rw [if_neg (by simp [h1]), if_neg h2, if_pos ⟨h3.1, by unfold PT.user; rw [HU.out.2]; exact h3.2⟩]
    rw [hres]
    obtain ⟨rfl, rfl⟩ := h3
    clear h1 h2 hres
    go_enter Try.func8, Try.ntmps8
    go_wp2_with fail
    try rw [hwA]
    refine (slots_any slot wA).mono ?_
    rintro e w1 ⟨rfl, rfl⟩
    rw [HD.out]
    go_wp2_with fail
    refine HU.out.1.mono ?_
    rintro e w1 ⟨rfl, hb1⟩
    have H1 := Lib.hid hb1
    clear hb1
    go_wp2_with fail
    go_ret2
    exact HSm.out _ _ H1.out
  have hres : T.openW conn slot rw = (T.last + 1, 0, T.added conn slot rw) := by unfold PT.openW; rw [if_neg (by simp [h1]), if_neg h2, if_neg (fun e => h3 ⟨e.1, by have := e.2; unfold PT.user at this; rw [HU.out.2] at this; exact this⟩)]
  rw [hres]
  have HN := Lib.hid (And.intro h1 (And.intro h2 h3))
  have hwrap : IntKind.i64.wrap (T.last + 1) = T.last + 1 := IntWalk.i64_in _ (by omega)
  clear h1 h2 hres
  have hX2 : X ∉ p :: (Value.slice A m c).ownBlock.toList := fun hm => by
    have hx := HT.out.2.2.2.2.1
    rcases List.mem_cons.1 hm with e | e
    · have := HT.out.1.blk.lt; omega
    · have := (HT.out.1.row.lt (g := X) (by simpa using e)).2; omega
  have HX2 := Lib.hid hX2
  clear hX2
  cases rw with
  | true =>
    go_enter Try.func8, Try.ntmps8
    go_wp2_with fail
    try rw [hwA]
    refine (slots_any slot wA).mono ?_
    rintro e w1 ⟨rfl, rfl⟩
    rw [HD.out]
    have H1 := Lib.hid (And.intro HT.out.2.1 (And.intro HT.out.2.2.2.1 HT.out.2.2.1))
    clear q0 q1 q2 g0 g1
    obtain ⟨q0, q1, q2⟩ := H1.out.1.cells
    have f1 := H1.out.1.blk.frozen 1
    go_wp2_with fail
    obtain ⟨wE, hwE⟩ : ∃ wE, wA.setCell ⟨p, 1, none⟩ (.int .i64 (T.last + 1)) = wE := ⟨_, rfl⟩
    have hTE : Turn [p] wA wE := by rw [← hwE]; exact (Turn.refl _ _).setCell (.inl (by simp)) _
    have bE : Blk wE p 54 #[.slice A m c, .int .i64 (T.last + 1), .map (some mb)] := by
      rw [← hwE]
      have := H1.out.1.blk.set_ 1 (.int .i64 (T.last + 1))
      simpa using this
    have hrow : OwnE Try.eS wE B (.slice A m c) T.l := H1.out.1.row.turn hTE (fun g hg hm => by simp at hm; subst hm; exact H1.out.1.row.ne H1.out.1.blk (by decide) hg)
    have hmap : MapIs wE mb T.n T.who := H1.out.1.map.keep (hTE.block mb H1.out.1.map.lt (by simp; exact H1.out.1.map.ne H1.out.1.blk))
    have bX : Blk wE X 56 #[.int .i64 conn, .int .i64 slot] := H1.out.2.2.turn hTE (by simp; have := HT.out.1.blk.lt; have := HT.out.2.2.2.2.1; omega)
    have hTw : Turn [p] w wE := (Turn.of_below [] (by rw [HT.out.2.2.2.2.1]; exact H1.out.2.1)).more (by simp) |>.trans hTE (fun x hx => .inl hx)
    have HE := Lib.hid (And.intro bE (And.intro hrow (And.intro hmap (And.intro bX hTw))))
    rw [hwE]
    clear hwE hTE bE hrow hmap bX hTw q0 q1 q2 f1
    obtain ⟨V, hV⟩ : ∃ V, (Value.slice A m c).ownBlock.toList = V := ⟨_, rfl⟩
    refine region_word (fun wz => Turn (p :: V) wE wz ∧ wz.cell? ⟨p, 1, none⟩ = some (.int .i64 (T.last + 1))) (by kernel_rfl) ⟨Turn.of_below _ (Old.drew (Old.refl wE)), HE.out.1.cell 1⟩ (fun hHeld => ?_)
    have hOld : Old wE wE.drew := Old.drew (Old.refl wE)
    obtain ⟨wd, hwd⟩ : ∃ wd, wE.drew = wd := ⟨_, rfl⟩
    rw [hwd] at hHeld hOld ⊢
    clear hwd
    have HO := Lib.hid hOld
    have HV := Lib.hid hV
    clear hOld hV
    refine takeL (i := 0) (v := ?_) rfl (by kernel_rfl) (by kernel_rfl) (by kernel_rfl) (fun _ _ _ h => h) (Or.inl ⟨by rfl, ?_⟩) hHeld ?_
    rotate_left
    focus (intro wq hSw; clear hSw; go_simp; try with_reducible rfl)
    try simp only [Act.put, List.setIfInBounds_toArray, List.set_cons_zero, List.set_cons_succ]
    refine takeL (i := 1) (v := ?_) rfl (by kernel_rfl) (by kernel_rfl) (by kernel_rfl) (fun _ _ _ h => h) (Or.inl ⟨by rfl, ?_⟩) hHeld ?_
    rotate_left
    focus (intro wq hSw; clear hSw; go_simp; try with_reducible rfl)
    try simp only [Act.put, List.setIfInBounds_toArray, List.set_cons_zero, List.set_cons_succ]
    refine takeL (i := 2) (v := ?_) rfl (by kernel_rfl) (by kernel_rfl) (by kernel_rfl) (fun _ _ _ h => h) (Or.inl ⟨by rfl, ?_⟩) hHeld ?_
    rotate_left
    focus (intro wq hSw; clear hSw; go_simp; try with_reducible rfl)
    try simp only [Act.put, List.setIfInBounds_toArray, List.set_cons_zero, List.set_cons_succ]
    refine takeL (i := 3) (v := ?_) rfl (by kernel_rfl) (by kernel_rfl) (by kernel_rfl) (fun _ _ _ h => h) (Or.inl ⟨by rfl, ?_⟩) hHeld ?_
    rotate_left
    focus (intro wq hSw; clear hSw; go_simp; try with_reducible rfl)
    try simp only [Act.put, List.setIfInBounds_toArray, List.set_cons_zero, List.set_cons_succ]
    refine takeL (i := 5) (v := ?_) rfl (by kernel_rfl) (by kernel_rfl) (by kernel_rfl) (fun _ _ _ h => h) (Or.inl ⟨by rfl, ?_⟩) hHeld ?_
    rotate_left
    focus (intro wq hSw; clear hSw; go_simp; try with_reducible rfl)
    try simp only [Act.put, List.setIfInBounds_toArray, List.set_cons_zero, List.set_cons_succ]
    refine takeL (i := 6) (v := ?_) rfl (by kernel_rfl) (by kernel_rfl) (by kernel_rfl) (fun _ _ _ h => h) (Or.inl ⟨by rfl, ?_⟩) hHeld ?_
    rotate_left
    focus (intro wq hSw; clear hSw; go_simp; try with_reducible rfl)
    try simp only [Act.put, List.setIfInBounds_toArray, List.set_cons_zero, List.set_cons_succ]
    refine takeL (i := 7) (v := ?_) rfl (by kernel_rfl) (by kernel_rfl) (by kernel_rfl) (fun _ _ _ h => h) (Or.inl ⟨by rfl, ?_⟩) hHeld ?_
    rotate_left
    focus (intro wq hSw; clear hSw; go_simp; try with_reducible rfl)
    try simp only [Act.put, List.setIfInBounds_toArray, List.set_cons_zero, List.set_cons_succ]
    refine takeL (i := 8) (v := ?_) rfl (by kernel_rfl) (by kernel_rfl) (by kernel_rfl) (fun _ _ _ h => h) (Or.inl ⟨by rfl, ?_⟩) hHeld ?_
    rotate_left
    focus (intro wq hSw; have c1 := hSw.2; clear hSw; go_simp; try with_reducible rfl)
    try simp only [Act.put, List.setIfInBounds_toArray, List.set_cons_zero, List.set_cons_succ]
    refine takeL (i := 9) (v := ?_) rfl (by kernel_rfl) (by kernel_rfl) (by kernel_rfl) (fun _ _ _ h => h) (Or.inl ⟨by rfl, ?_⟩) hHeld ?_
    rotate_left
    focus (intro wq hSw; have g0 := cell_turn (HE.out.2.2.2.1.cell 0) hSw.1 (fun hm => HX2.out (by rw [HV.out]; exact hm)); have g1 := cell_turn (HE.out.2.2.2.1.cell 1) hSw.1 (fun hm => HX2.out (by rw [HV.out]; exact hm)); clear hSw; go_simp; try with_reducible rfl)
    try simp only [Act.put, List.setIfInBounds_toArray, List.set_cons_zero, List.set_cons_succ]
    refine takeL (i := 10) (v := ?_) rfl (by kernel_rfl) (by kernel_rfl) (by kernel_rfl) (fun _ _ _ h => h) (Or.inl ⟨by rfl, ?_⟩) hHeld ?_
    rotate_left
    focus (intro wq hSw; clear hSw; go_simp; try with_reducible rfl)
    try simp only [Act.put, List.setIfInBounds_toArray, List.set_cons_zero, List.set_cons_succ]
    refine takeL (i := 11) (v := ?_) rfl (by kernel_rfl) (by kernel_rfl) (by kernel_rfl) (fun _ _ _ h => h) (Or.inl ⟨by rfl, ?_⟩) hHeld ?_
    rotate_left
    focus (intro wq hSw; clear hSw; go_simp; try with_reducible rfl)
    try simp only [Act.put, List.setIfInBounds_toArray, List.set_cons_zero, List.set_cons_succ]
    refine wpAnyH_ready (rs := [4, 12]) (by kernel_rfl) (by simp) ?_
    refine consL rfl (fun K hK => ?_) (consL rfl (fun K hK => ?_) AllReadyH.nil)
    · have g4 := (HE.out.1.below HO.out).cell 0
      simp only [List.getElem?_toArray, List.getElem?_cons_succ, List.getElem?_cons_zero] at g4
      go_simp
      refine hK.out _ _ hHeld (fun hHeld => ?_)
      clear hK K g4
      try simp only [Act.put, List.setIfInBounds_toArray, List.set_cons_zero, List.set_cons_succ]
      refine wpAnyH_ready (rs := [12]) (by kernel_rfl) (by simp) ?_
      refine consL rfl (fun K hK => ?_) AllReadyH.nil
      go_simp
      have hz : Turn (p :: V) wE (wd.alloc (.cells #[.int .i64 (T.last + 1), .int .i64 conn, .int .i64 slot, .bool true] 59)) ∧ (wd.alloc (.cells #[.int .i64 (T.last + 1), .int .i64 conn, .int .i64 slot, .bool true] 59)).cell? ⟨p, 1, none⟩ = some (.int .i64 (T.last + 1)) := ⟨hHeld.1.alloc _, ((HE.out.1.below HO.out).alloc _).cell 1⟩
      refine hK.out _ _ hz (fun hHeld => ?_)
      clear hK K hz
      try simp only [Act.put, List.setIfInBounds_toArray, List.set_cons_zero, List.set_cons_succ]
      refine wpAnyH_ready (rs := [13]) (by kernel_rfl) (by simp) ?_
      refine consL rfl (fun K hK => ?_) AllReadyH.nil
      have hal : Below wd.heap.size wd (wd.alloc (.cells #[.int .i64 (T.last + 1), .int .i64 conn, .int .i64 slot, .bool true] 59)) := (Below.refl _ _).alloc (Nat.le_refl _) _
      refine step_appE Try.eS (.tmp 48) (.tmp 56) B (.slice A m c) T.l ((HE.out.2.1.below HO.out).below hal) (by have := HT.out.1.blk.lt; have := HT.out.1.lp; have := HE.out.2.2.2.2.size; have := HO.out.size; have := hal.size; omega) (some ⟨wd.heap.size, 0, none⟩) 1 1 [⟨T.last + 1, conn, slot, true⟩] (Blk.rdC Try.eS (Blk.new wd 59 _) rfl) (fun h => by cases h) (by have := HT.out.1.small; simp; omega) rfl rfl rfl rfl ?_
      intro A9 n9 c9 w9 hG
      have b9 : Blk w9 p 54 #[.slice A m c, .int .i64 (T.last + 1), .map (some mb)] := ((HE.out.1.below HO.out).below hal).keep (hG.grown.block _ ((HE.out.1.below HO.out).below hal).lt (fun e => HE.out.2.1.ne HE.out.1 (by decide) e.symm))
      have hz : Turn (p :: V) wE w9 ∧ w9.cell? ⟨p, 1, none⟩ = some (.int .i64 (T.last + 1)) := ⟨hHeld.1.grown hG.grown (fun k hk => .inl (by rw [← HV.out]; simp [hk])), b9.cell 1⟩
      have f9 := b9.frozen 0
      have H9 := Lib.hid (And.intro hG (And.intro b9 (And.intro hz.1 hal)))
      refine hK.out _ _ hz (fun hHeld => ?_)
      clear hK K hz hG b9 hal
      try simp only [Act.put, List.setIfInBounds_toArray, List.set_cons_zero, List.set_cons_succ]
      refine takeL (i := 14) (v := ?_) rfl (by kernel_rfl) (by kernel_rfl) (by kernel_rfl) (fun _ _ _ h => h) (Or.inl ⟨by rfl, ?_⟩) hHeld ?_
      rotate_left
      focus (intro wq hSw; clear hSw; go_simp; try with_reducible rfl)
      try simp only [Act.put, List.setIfInBounds_toArray, List.set_cons_zero, List.set_cons_succ]
      refine takeL (i := 15) (v := ?_) rfl (by kernel_rfl) (by kernel_rfl) (by kernel_rfl) (fun _ _ _ h => h) (Or.inl ⟨by rfl, ?_⟩) hHeld ?_
      rotate_left
      focus (intro wq hSw; clear hSw; go_simp; try with_reducible rfl)
      try simp only [Act.put, List.setIfInBounds_toArray, List.set_cons_zero, List.set_cons_succ]
      refine wpAnyH_ready (rs := [16]) (by kernel_rfl) (by simp) ?_
      refine consL rfl (fun K hK => ?_) AllReadyH.nil
      have d9 := H9.out.2.1.cell 0
      simp only [List.getElem?_toArray, List.getElem?_cons_succ, List.getElem?_cons_zero] at d9
      go_simp
      have b10 := H9.out.2.1.set_ 0 (.slice A9 n9 c9)
      simp at b10
      have hz : Turn (p :: V) wE (w9.setCell ⟨p, 0, none⟩ (.slice A9 n9 c9)) ∧ (w9.setCell ⟨p, 0, none⟩ (.slice A9 n9 c9)).cell? ⟨p, 1, none⟩ = some (.int .i64 (T.last + 1)) := ⟨hHeld.1.setCell (.inl (by simp)) _, b10.cell 1⟩
      have H10 := Lib.hid (And.intro b10 hz.1)
      refine hK.out _ _ hz (fun hHeld => ?_)
      clear hK K f9 b10 hz d9
      try simp only [Act.put, List.setIfInBounds_toArray, List.set_cons_zero, List.set_cons_succ]
      refine wpAnyH_done (by kernel_rfl) ?_ _
      refine NoPanic.normal ?_
      clear hHeld
      have q1 := H10.out.1.cell 1
      simp only [List.getElem?_toArray, List.getElem?_cons_succ, List.getElem?_cons_zero] at q1
      go_wp2_with fail
      go_ret2
      have hT10 : Turn [p] w9 (w9.setCell ⟨p, 0, none⟩ (.slice A9 n9 c9)) := (Turn.refl _ _).setCell (.inl (by simp)) _
      have hpw := HT.out.1.blk.lt
      have hlm := HT.out.1.map.lt
      have hrow : OwnE Try.eS (w9.setCell ⟨p, 0, none⟩ (.slice A9 n9 c9)) B (.slice A9 n9 c9) (T.l ++ [⟨T.last + 1, conn, slot, true⟩]) := H9.out.1.own.turn hT10 (fun g hg hm => by simp at hm; subst hm; exact H9.out.1.own.ne H9.out.2.1 (by decide) hg)
      have hmS : mb ∉ p :: V := fun hm => by
        rcases List.mem_cons.1 hm with e | e
        · exact HT.out.1.map.ne HT.out.1.blk e
        · rw [← HV.out] at e; obtain ⟨cs, hcs⟩ := HT.out.1.row.blk (g := mb) (by simpa using e); exact HT.out.1.map.ne hcs rfl
      have hmap : MapIs (w9.setCell ⟨p, 0, none⟩ (.slice A9 n9 c9)) mb T.n T.who := HE.out.2.2.1.keep (H10.out.2.block mb HE.out.2.2.1.lt hmS)
      have hTw : Turn (p :: V) w (w9.setCell ⟨p, 0, none⟩ (.slice A9 n9 c9)) := (HE.out.2.2.2.2.more (by simp)).trans H10.out.2 (fun x hx => .inl hx)
      refine ⟨rfl, blocks A9 n9 c9 mb p, ⟨A9, n9, c9, mb, ⟨H10.out.1, hrow, hmap, HT.out.1.lp, HT.out.1.lm, by have := HN.out.2.1; simp [PT.added]; omega, fun x hx => ?_⟩, rfl⟩, hTw.more (fun x hx => ?_), fun x hx => ?_⟩
      · rcases List.mem_append.1 hx with e | e
        · exact HT.out.1.wf x e
        · simp at e; subst e; exact ⟨WalkArith.wf_i64 (show -9223372036854775808 ≤ T.last + 1 ∧ T.last + 1 ≤ 9223372036854775807 by omega), hc, hs⟩
      · rw [← HT.out.2.2.2.2.2.1]; unfold blocks; rw [HV.out]; rcases List.mem_cons.1 hx with e | e
        · rw [e]; simp
        · simp [e]
      · rw [← HT.out.2.2.2.2.2.1]; unfold blocks at hx ⊢
        rcases List.mem_cons.1 hx with e | e
        · left; rw [e]; simp
        · rcases List.mem_cons.1 e with e | e
          · left; rw [e]; simp
          · rcases H9.out.1.at_ with e' | e'
            · left; rw [e'] at e; simp [e]
            · right; rw [e'] at e; simp at e; subst e; have := HE.out.2.2.2.2.size; have := HO.out.size; have := H9.out.2.2.2.size; omega
    · go_simp
      have hz : Turn (p :: V) wE (wd.alloc (.cells #[.int .i64 (T.last + 1), .int .i64 conn, .int .i64 slot, .bool true] 59)) ∧ (wd.alloc (.cells #[.int .i64 (T.last + 1), .int .i64 conn, .int .i64 slot, .bool true] 59)).cell? ⟨p, 1, none⟩ = some (.int .i64 (T.last + 1)) := ⟨hHeld.1.alloc _, ((HE.out.1.below HO.out).alloc _).cell 1⟩
      refine hK.out _ _ hz (fun hHeld => ?_)
      clear hK K hz
      try simp only [Act.put, List.setIfInBounds_toArray, List.set_cons_zero, List.set_cons_succ]
      refine wpAnyH_ready (rs := [4]) (by kernel_rfl) (by simp) ?_
      refine consL rfl (fun K hK => ?_) AllReadyH.nil
      have g4 := ((HE.out.1.below HO.out).alloc (.cells #[.int .i64 (T.last + 1), .int .i64 conn, .int .i64 slot, .bool true] 59)).cell 0
      simp only [List.getElem?_toArray, List.getElem?_cons_succ, List.getElem?_cons_zero] at g4
      go_simp
      refine hK.out _ _ hHeld (fun hHeld => ?_)
      clear hK K g4
      try simp only [Act.put, List.setIfInBounds_toArray, List.set_cons_zero, List.set_cons_succ]
      refine wpAnyH_ready (rs := [13]) (by kernel_rfl) (by simp) ?_
      refine consL rfl (fun K hK => ?_) AllReadyH.nil
      have hal : Below wd.heap.size wd (wd.alloc (.cells #[.int .i64 (T.last + 1), .int .i64 conn, .int .i64 slot, .bool true] 59)) := (Below.refl _ _).alloc (Nat.le_refl _) _
      refine step_appE Try.eS (.tmp 48) (.tmp 56) B (.slice A m c) T.l ((HE.out.2.1.below HO.out).below hal) (by have := HT.out.1.blk.lt; have := HT.out.1.lp; have := HE.out.2.2.2.2.size; have := HO.out.size; have := hal.size; omega) (some ⟨wd.heap.size, 0, none⟩) 1 1 [⟨T.last + 1, conn, slot, true⟩] (Blk.rdC Try.eS (Blk.new wd 59 _) rfl) (fun h => by cases h) (by have := HT.out.1.small; simp; omega) rfl rfl rfl rfl ?_
      intro A9 n9 c9 w9 hG
      have b9 : Blk w9 p 54 #[.slice A m c, .int .i64 (T.last + 1), .map (some mb)] := ((HE.out.1.below HO.out).below hal).keep (hG.grown.block _ ((HE.out.1.below HO.out).below hal).lt (fun e => HE.out.2.1.ne HE.out.1 (by decide) e.symm))
      have hz : Turn (p :: V) wE w9 ∧ w9.cell? ⟨p, 1, none⟩ = some (.int .i64 (T.last + 1)) := ⟨hHeld.1.grown hG.grown (fun k hk => .inl (by rw [← HV.out]; simp [hk])), b9.cell 1⟩
      have f9 := b9.frozen 0
      have H9 := Lib.hid (And.intro hG (And.intro b9 (And.intro hz.1 hal)))
      refine hK.out _ _ hz (fun hHeld => ?_)
      clear hK K hz hG b9 hal
      try simp only [Act.put, List.setIfInBounds_toArray, List.set_cons_zero, List.set_cons_succ]
      refine takeL (i := 14) (v := ?_) rfl (by kernel_rfl) (by kernel_rfl) (by kernel_rfl) (fun _ _ _ h => h) (Or.inl ⟨by rfl, ?_⟩) hHeld ?_
      rotate_left
      focus (intro wq hSw; clear hSw; go_simp; try with_reducible rfl)
      try simp only [Act.put, List.setIfInBounds_toArray, List.set_cons_zero, List.set_cons_succ]
      refine takeL (i := 15) (v := ?_) rfl (by kernel_rfl) (by kernel_rfl) (by kernel_rfl) (fun _ _ _ h => h) (Or.inl ⟨by rfl, ?_⟩) hHeld ?_
      rotate_left
      focus (intro wq hSw; clear hSw; go_simp; try with_reducible rfl)
      try simp only [Act.put, List.setIfInBounds_toArray, List.set_cons_zero, List.set_cons_succ]
      refine wpAnyH_ready (rs := [16]) (by kernel_rfl) (by simp) ?_
      refine consL rfl (fun K hK => ?_) AllReadyH.nil
      have d9 := H9.out.2.1.cell 0
      simp only [List.getElem?_toArray, List.getElem?_cons_succ, List.getElem?_cons_zero] at d9
      go_simp
      have b10 := H9.out.2.1.set_ 0 (.slice A9 n9 c9)
      simp at b10
      have hz : Turn (p :: V) wE (w9.setCell ⟨p, 0, none⟩ (.slice A9 n9 c9)) ∧ (w9.setCell ⟨p, 0, none⟩ (.slice A9 n9 c9)).cell? ⟨p, 1, none⟩ = some (.int .i64 (T.last + 1)) := ⟨hHeld.1.setCell (.inl (by simp)) _, b10.cell 1⟩
      have H10 := Lib.hid (And.intro b10 hz.1)
      refine hK.out _ _ hz (fun hHeld => ?_)
      clear hK K f9 b10 hz d9
      try simp only [Act.put, List.setIfInBounds_toArray, List.set_cons_zero, List.set_cons_succ]
      refine wpAnyH_done (by kernel_rfl) ?_ _
      refine NoPanic.normal ?_
      clear hHeld
      have q1 := H10.out.1.cell 1
      simp only [List.getElem?_toArray, List.getElem?_cons_succ, List.getElem?_cons_zero] at q1
      go_wp2_with fail
      go_ret2
      have hT10 : Turn [p] w9 (w9.setCell ⟨p, 0, none⟩ (.slice A9 n9 c9)) := (Turn.refl _ _).setCell (.inl (by simp)) _
      have hpw := HT.out.1.blk.lt
      have hlm := HT.out.1.map.lt
      have hrow : OwnE Try.eS (w9.setCell ⟨p, 0, none⟩ (.slice A9 n9 c9)) B (.slice A9 n9 c9) (T.l ++ [⟨T.last + 1, conn, slot, true⟩]) := H9.out.1.own.turn hT10 (fun g hg hm => by simp at hm; subst hm; exact H9.out.1.own.ne H9.out.2.1 (by decide) hg)
      have hmS : mb ∉ p :: V := fun hm => by
        rcases List.mem_cons.1 hm with e | e
        · exact HT.out.1.map.ne HT.out.1.blk e
        · rw [← HV.out] at e; obtain ⟨cs, hcs⟩ := HT.out.1.row.blk (g := mb) (by simpa using e); exact HT.out.1.map.ne hcs rfl
      have hmap : MapIs (w9.setCell ⟨p, 0, none⟩ (.slice A9 n9 c9)) mb T.n T.who := HE.out.2.2.1.keep (H10.out.2.block mb HE.out.2.2.1.lt hmS)
      have hTw : Turn (p :: V) w (w9.setCell ⟨p, 0, none⟩ (.slice A9 n9 c9)) := (HE.out.2.2.2.2.more (by simp)).trans H10.out.2 (fun x hx => .inl hx)
      refine ⟨rfl, blocks A9 n9 c9 mb p, ⟨A9, n9, c9, mb, ⟨H10.out.1, hrow, hmap, HT.out.1.lp, HT.out.1.lm, by have := HN.out.2.1; simp [PT.added]; omega, fun x hx => ?_⟩, rfl⟩, hTw.more (fun x hx => ?_), fun x hx => ?_⟩
      · rcases List.mem_append.1 hx with e | e
        · exact HT.out.1.wf x e
        · simp at e; subst e; exact ⟨WalkArith.wf_i64 (show -9223372036854775808 ≤ T.last + 1 ∧ T.last + 1 ≤ 9223372036854775807 by omega), hc, hs⟩
      · rw [← HT.out.2.2.2.2.2.1]; unfold blocks; rw [HV.out]; rcases List.mem_cons.1 hx with e | e
        · rw [e]; simp
        · simp [e]
      · rw [← HT.out.2.2.2.2.2.1]; unfold blocks at hx ⊢
        rcases List.mem_cons.1 hx with e | e
        · left; rw [e]; simp
        · rcases List.mem_cons.1 e with e | e
          · left; rw [e]; simp
          · rcases H9.out.1.at_ with e' | e'
            · left; rw [e'] at e; simp [e]
            · right; rw [e'] at e; simp at e; subst e; have := HE.out.2.2.2.2.size; have := HO.out.size; have := H9.out.2.2.2.size; omega
  | false =>
    have hu0 : ¬ u = 0 := fun e => HN.out.2.2 ⟨rfl, e⟩
    have hud : decide (u = 0) = false := decide_eq_false hu0
    go_enter Try.func8, Try.ntmps8
    go_wp2_with fail
    try rw [hwA]
    refine (slots_any slot wA).mono ?_
    rintro e w1 ⟨rfl, rfl⟩
    rw [HD.out]
    go_wp2_with fail
    refine HU.out.1.mono ?_
    rintro e wq ⟨rfl, hb1⟩
    have H1 := Lib.hid (And.intro (HT.out.2.1.below hb1) (And.intro (HT.out.2.2.2.1.trans (hb1.mono (by have := HT.out.2.2.2.1.size; have := HT.out.2.2.2.2.1; omega))) (HT.out.2.2.1.below hb1)))
    clear hb1 q0 q1 q2 g0 g1
    obtain ⟨q0, q1, q2⟩ := H1.out.1.cells
    have f1 := H1.out.1.blk.frozen 1
    go_wp2_with fail
    obtain ⟨wE, hwE⟩ : ∃ wE, wq.setCell ⟨p, 1, none⟩ (.int .i64 (T.last + 1)) = wE := ⟨_, rfl⟩
    have hTE : Turn [p] wq wE := by rw [← hwE]; exact (Turn.refl _ _).setCell (.inl (by simp)) _
    have bE : Blk wE p 54 #[.slice A m c, .int .i64 (T.last + 1), .map (some mb)] := by
      rw [← hwE]
      have := H1.out.1.blk.set_ 1 (.int .i64 (T.last + 1))
      simpa using this
    have hrow : OwnE Try.eS wE B (.slice A m c) T.l := H1.out.1.row.turn hTE (fun g hg hm => by simp at hm; subst hm; exact H1.out.1.row.ne H1.out.1.blk (by decide) hg)
    have hmap : MapIs wE mb T.n T.who := H1.out.1.map.keep (hTE.block mb H1.out.1.map.lt (by simp; exact H1.out.1.map.ne H1.out.1.blk))
    have bX : Blk wE X 56 #[.int .i64 conn, .int .i64 slot] := H1.out.2.2.turn hTE (by simp; have := HT.out.1.blk.lt; have := HT.out.2.2.2.2.1; omega)
    have hTw : Turn [p] w wE := (Turn.of_below [] (by rw [HT.out.2.2.2.2.1]; exact H1.out.2.1)).more (by simp) |>.trans hTE (fun x hx => .inl hx)
    have HE := Lib.hid (And.intro bE (And.intro hrow (And.intro hmap (And.intro bX hTw))))
    rw [hwE]
    clear hwE hTE bE hrow hmap bX hTw q0 q1 q2 f1
    obtain ⟨V, hV⟩ : ∃ V, (Value.slice A m c).ownBlock.toList = V := ⟨_, rfl⟩
    refine region_word (fun wz => Turn (p :: V) wE wz ∧ wz.cell? ⟨p, 1, none⟩ = some (.int .i64 (T.last + 1))) (by kernel_rfl) ⟨Turn.of_below _ (Old.drew (Old.refl wE)), HE.out.1.cell 1⟩ (fun hHeld => ?_)
    have hOld : Old wE wE.drew := Old.drew (Old.refl wE)
    obtain ⟨wd, hwd⟩ : ∃ wd, wE.drew = wd := ⟨_, rfl⟩
    rw [hwd] at hHeld hOld ⊢
    clear hwd
    have HO := Lib.hid hOld
    have HV := Lib.hid hV
    clear hOld hV
    refine takeL (i := 0) (v := ?_) rfl (by kernel_rfl) (by kernel_rfl) (by kernel_rfl) (fun _ _ _ h => h) (Or.inl ⟨by rfl, ?_⟩) hHeld ?_
    rotate_left
    focus (intro wq hSw; clear hSw; go_simp; try with_reducible rfl)
    try simp only [Act.put, List.setIfInBounds_toArray, List.set_cons_zero, List.set_cons_succ]
    refine takeL (i := 1) (v := ?_) rfl (by kernel_rfl) (by kernel_rfl) (by kernel_rfl) (fun _ _ _ h => h) (Or.inl ⟨by rfl, ?_⟩) hHeld ?_
    rotate_left
    focus (intro wq hSw; clear hSw; go_simp; try with_reducible rfl)
    try simp only [Act.put, List.setIfInBounds_toArray, List.set_cons_zero, List.set_cons_succ]
    refine takeL (i := 2) (v := ?_) rfl (by kernel_rfl) (by kernel_rfl) (by kernel_rfl) (fun _ _ _ h => h) (Or.inl ⟨by rfl, ?_⟩) hHeld ?_
    rotate_left
    focus (intro wq hSw; clear hSw; go_simp; try with_reducible rfl)
    try simp only [Act.put, List.setIfInBounds_toArray, List.set_cons_zero, List.set_cons_succ]
    refine takeL (i := 3) (v := ?_) rfl (by kernel_rfl) (by kernel_rfl) (by kernel_rfl) (fun _ _ _ h => h) (Or.inl ⟨by rfl, ?_⟩) hHeld ?_
    rotate_left
    focus (intro wq hSw; clear hSw; go_simp; try with_reducible rfl)
    try simp only [Act.put, List.setIfInBounds_toArray, List.set_cons_zero, List.set_cons_succ]
    refine takeL (i := 5) (v := ?_) rfl (by kernel_rfl) (by kernel_rfl) (by kernel_rfl) (fun _ _ _ h => h) (Or.inl ⟨by rfl, ?_⟩) hHeld ?_
    rotate_left
    focus (intro wq hSw; clear hSw; go_simp; try with_reducible rfl)
    try simp only [Act.put, List.setIfInBounds_toArray, List.set_cons_zero, List.set_cons_succ]
    refine takeL (i := 6) (v := ?_) rfl (by kernel_rfl) (by kernel_rfl) (by kernel_rfl) (fun _ _ _ h => h) (Or.inl ⟨by rfl, ?_⟩) hHeld ?_
    rotate_left
    focus (intro wq hSw; clear hSw; go_simp; try with_reducible rfl)
    try simp only [Act.put, List.setIfInBounds_toArray, List.set_cons_zero, List.set_cons_succ]
    refine takeL (i := 7) (v := ?_) rfl (by kernel_rfl) (by kernel_rfl) (by kernel_rfl) (fun _ _ _ h => h) (Or.inl ⟨by rfl, ?_⟩) hHeld ?_
    rotate_left
    focus (intro wq hSw; clear hSw; go_simp; try with_reducible rfl)
    try simp only [Act.put, List.setIfInBounds_toArray, List.set_cons_zero, List.set_cons_succ]
    refine takeL (i := 8) (v := ?_) rfl (by kernel_rfl) (by kernel_rfl) (by kernel_rfl) (fun _ _ _ h => h) (Or.inl ⟨by rfl, ?_⟩) hHeld ?_
    rotate_left
    focus (intro wq hSw; have c1 := hSw.2; clear hSw; go_simp; try with_reducible rfl)
    try simp only [Act.put, List.setIfInBounds_toArray, List.set_cons_zero, List.set_cons_succ]
    refine takeL (i := 9) (v := ?_) rfl (by kernel_rfl) (by kernel_rfl) (by kernel_rfl) (fun _ _ _ h => h) (Or.inl ⟨by rfl, ?_⟩) hHeld ?_
    rotate_left
    focus (intro wq hSw; have g0 := cell_turn (HE.out.2.2.2.1.cell 0) hSw.1 (fun hm => HX2.out (by rw [HV.out]; exact hm)); have g1 := cell_turn (HE.out.2.2.2.1.cell 1) hSw.1 (fun hm => HX2.out (by rw [HV.out]; exact hm)); clear hSw; go_simp; try with_reducible rfl)
    try simp only [Act.put, List.setIfInBounds_toArray, List.set_cons_zero, List.set_cons_succ]
    refine takeL (i := 10) (v := ?_) rfl (by kernel_rfl) (by kernel_rfl) (by kernel_rfl) (fun _ _ _ h => h) (Or.inl ⟨by rfl, ?_⟩) hHeld ?_
    rotate_left
    focus (intro wq hSw; clear hSw; go_simp; try with_reducible rfl)
    try simp only [Act.put, List.setIfInBounds_toArray, List.set_cons_zero, List.set_cons_succ]
    refine takeL (i := 11) (v := ?_) rfl (by kernel_rfl) (by kernel_rfl) (by kernel_rfl) (fun _ _ _ h => h) (Or.inl ⟨by rfl, ?_⟩) hHeld ?_
    rotate_left
    focus (intro wq hSw; clear hSw; go_simp; try with_reducible rfl)
    try simp only [Act.put, List.setIfInBounds_toArray, List.set_cons_zero, List.set_cons_succ]
    refine wpAnyH_ready (rs := [4, 12]) (by kernel_rfl) (by simp) ?_
    refine consL rfl (fun K hK => ?_) (consL rfl (fun K hK => ?_) AllReadyH.nil)
    · have g4 := (HE.out.1.below HO.out).cell 0
      simp only [List.getElem?_toArray, List.getElem?_cons_succ, List.getElem?_cons_zero] at g4
      go_simp
      refine hK.out _ _ hHeld (fun hHeld => ?_)
      clear hK K g4
      try simp only [Act.put, List.setIfInBounds_toArray, List.set_cons_zero, List.set_cons_succ]
      refine wpAnyH_ready (rs := [12]) (by kernel_rfl) (by simp) ?_
      refine consL rfl (fun K hK => ?_) AllReadyH.nil
      go_simp
      have hz : Turn (p :: V) wE (wd.alloc (.cells #[.int .i64 (T.last + 1), .int .i64 conn, .int .i64 slot, .bool false] 59)) ∧ (wd.alloc (.cells #[.int .i64 (T.last + 1), .int .i64 conn, .int .i64 slot, .bool false] 59)).cell? ⟨p, 1, none⟩ = some (.int .i64 (T.last + 1)) := ⟨hHeld.1.alloc _, ((HE.out.1.below HO.out).alloc _).cell 1⟩
      refine hK.out _ _ hz (fun hHeld => ?_)
      clear hK K hz
      try simp only [Act.put, List.setIfInBounds_toArray, List.set_cons_zero, List.set_cons_succ]
      refine wpAnyH_ready (rs := [13]) (by kernel_rfl) (by simp) ?_
      refine consL rfl (fun K hK => ?_) AllReadyH.nil
      have hal : Below wd.heap.size wd (wd.alloc (.cells #[.int .i64 (T.last + 1), .int .i64 conn, .int .i64 slot, .bool false] 59)) := (Below.refl _ _).alloc (Nat.le_refl _) _
      refine step_appE Try.eS (.tmp 48) (.tmp 56) B (.slice A m c) T.l ((HE.out.2.1.below HO.out).below hal) (by have := HT.out.1.blk.lt; have := HT.out.1.lp; have := HE.out.2.2.2.2.size; have := HO.out.size; have := hal.size; omega) (some ⟨wd.heap.size, 0, none⟩) 1 1 [⟨T.last + 1, conn, slot, false⟩] (Blk.rdC Try.eS (Blk.new wd 59 _) rfl) (fun h => by cases h) (by have := HT.out.1.small; simp; omega) rfl rfl rfl rfl ?_
      intro A9 n9 c9 w9 hG
      have b9 : Blk w9 p 54 #[.slice A m c, .int .i64 (T.last + 1), .map (some mb)] := ((HE.out.1.below HO.out).below hal).keep (hG.grown.block _ ((HE.out.1.below HO.out).below hal).lt (fun e => HE.out.2.1.ne HE.out.1 (by decide) e.symm))
      have hz : Turn (p :: V) wE w9 ∧ w9.cell? ⟨p, 1, none⟩ = some (.int .i64 (T.last + 1)) := ⟨hHeld.1.grown hG.grown (fun k hk => .inl (by rw [← HV.out]; simp [hk])), b9.cell 1⟩
      have f9 := b9.frozen 0
      have H9 := Lib.hid (And.intro hG (And.intro b9 (And.intro hz.1 hal)))
      refine hK.out _ _ hz (fun hHeld => ?_)
      clear hK K hz hG b9 hal
      try simp only [Act.put, List.setIfInBounds_toArray, List.set_cons_zero, List.set_cons_succ]
      refine takeL (i := 14) (v := ?_) rfl (by kernel_rfl) (by kernel_rfl) (by kernel_rfl) (fun _ _ _ h => h) (Or.inl ⟨by rfl, ?_⟩) hHeld ?_
      rotate_left
      focus (intro wq hSw; clear hSw; go_simp; try with_reducible rfl)
      try simp only [Act.put, List.setIfInBounds_toArray, List.set_cons_zero, List.set_cons_succ]
      refine takeL (i := 15) (v := ?_) rfl (by kernel_rfl) (by kernel_rfl) (by kernel_rfl) (fun _ _ _ h => h) (Or.inl ⟨by rfl, ?_⟩) hHeld ?_
      rotate_left
      focus (intro wq hSw; clear hSw; go_simp; try with_reducible rfl)
      try simp only [Act.put, List.setIfInBounds_toArray, List.set_cons_zero, List.set_cons_succ]
      refine wpAnyH_ready (rs := [16]) (by kernel_rfl) (by simp) ?_
      refine consL rfl (fun K hK => ?_) AllReadyH.nil
      have d9 := H9.out.2.1.cell 0
      simp only [List.getElem?_toArray, List.getElem?_cons_succ, List.getElem?_cons_zero] at d9
      go_simp
      have b10 := H9.out.2.1.set_ 0 (.slice A9 n9 c9)
      simp at b10
      have hz : Turn (p :: V) wE (w9.setCell ⟨p, 0, none⟩ (.slice A9 n9 c9)) ∧ (w9.setCell ⟨p, 0, none⟩ (.slice A9 n9 c9)).cell? ⟨p, 1, none⟩ = some (.int .i64 (T.last + 1)) := ⟨hHeld.1.setCell (.inl (by simp)) _, b10.cell 1⟩
      have H10 := Lib.hid (And.intro b10 hz.1)
      refine hK.out _ _ hz (fun hHeld => ?_)
      clear hK K f9 b10 hz d9
      try simp only [Act.put, List.setIfInBounds_toArray, List.set_cons_zero, List.set_cons_succ]
      refine wpAnyH_done (by kernel_rfl) ?_ _
      refine NoPanic.normal ?_
      clear hHeld
      have q1 := H10.out.1.cell 1
      simp only [List.getElem?_toArray, List.getElem?_cons_succ, List.getElem?_cons_zero] at q1
      go_wp2_with fail
      go_ret2
      have hT10 : Turn [p] w9 (w9.setCell ⟨p, 0, none⟩ (.slice A9 n9 c9)) := (Turn.refl _ _).setCell (.inl (by simp)) _
      have hpw := HT.out.1.blk.lt
      have hlm := HT.out.1.map.lt
      have hrow : OwnE Try.eS (w9.setCell ⟨p, 0, none⟩ (.slice A9 n9 c9)) B (.slice A9 n9 c9) (T.l ++ [⟨T.last + 1, conn, slot, false⟩]) := H9.out.1.own.turn hT10 (fun g hg hm => by simp at hm; subst hm; exact H9.out.1.own.ne H9.out.2.1 (by decide) hg)
      have hmS : mb ∉ p :: V := fun hm => by
        rcases List.mem_cons.1 hm with e | e
        · exact HT.out.1.map.ne HT.out.1.blk e
        · rw [← HV.out] at e; obtain ⟨cs, hcs⟩ := HT.out.1.row.blk (g := mb) (by simpa using e); exact HT.out.1.map.ne hcs rfl
      have hmap : MapIs (w9.setCell ⟨p, 0, none⟩ (.slice A9 n9 c9)) mb T.n T.who := HE.out.2.2.1.keep (H10.out.2.block mb HE.out.2.2.1.lt hmS)
      have hTw : Turn (p :: V) w (w9.setCell ⟨p, 0, none⟩ (.slice A9 n9 c9)) := (HE.out.2.2.2.2.more (by simp)).trans H10.out.2 (fun x hx => .inl hx)
      refine ⟨rfl, blocks A9 n9 c9 mb p, ⟨A9, n9, c9, mb, ⟨H10.out.1, hrow, hmap, HT.out.1.lp, HT.out.1.lm, by have := HN.out.2.1; simp [PT.added]; omega, fun x hx => ?_⟩, rfl⟩, hTw.more (fun x hx => ?_), fun x hx => ?_⟩
      · rcases List.mem_append.1 hx with e | e
        · exact HT.out.1.wf x e
        · simp at e; subst e; exact ⟨WalkArith.wf_i64 (show -9223372036854775808 ≤ T.last + 1 ∧ T.last + 1 ≤ 9223372036854775807 by omega), hc, hs⟩
      · rw [← HT.out.2.2.2.2.2.1]; unfold blocks; rw [HV.out]; rcases List.mem_cons.1 hx with e | e
        · rw [e]; simp
        · simp [e]
      · rw [← HT.out.2.2.2.2.2.1]; unfold blocks at hx ⊢
        rcases List.mem_cons.1 hx with e | e
        · left; rw [e]; simp
        · rcases List.mem_cons.1 e with e | e
          · left; rw [e]; simp
          · rcases H9.out.1.at_ with e' | e'
            · left; rw [e'] at e; simp [e]
            · right; rw [e'] at e; simp at e; subst e; have := HE.out.2.2.2.2.size; have := HO.out.size; have := H9.out.2.2.2.size; omega
    · go_simp
      have hz : Turn (p :: V) wE (wd.alloc (.cells #[.int .i64 (T.last + 1), .int .i64 conn, .int .i64 slot, .bool false] 59)) ∧ (wd.alloc (.cells #[.int .i64 (T.last + 1), .int .i64 conn, .int .i64 slot, .bool false] 59)).cell? ⟨p, 1, none⟩ = some (.int .i64 (T.last + 1)) := ⟨hHeld.1.alloc _, ((HE.out.1.below HO.out).alloc _).cell 1⟩
      refine hK.out _ _ hz (fun hHeld => ?_)
      clear hK K hz
      try simp only [Act.put, List.setIfInBounds_toArray, List.set_cons_zero, List.set_cons_succ]
      refine wpAnyH_ready (rs := [4]) (by kernel_rfl) (by simp) ?_
      refine consL rfl (fun K hK => ?_) AllReadyH.nil
      have g4 := ((HE.out.1.below HO.out).alloc (.cells #[.int .i64 (T.last + 1), .int .i64 conn, .int .i64 slot, .bool false] 59)).cell 0
      simp only [List.getElem?_toArray, List.getElem?_cons_succ, List.getElem?_cons_zero] at g4
      go_simp
      refine hK.out _ _ hHeld (fun hHeld => ?_)
      clear hK K g4
      try simp only [Act.put, List.setIfInBounds_toArray, List.set_cons_zero, List.set_cons_succ]
      refine wpAnyH_ready (rs := [13]) (by kernel_rfl) (by simp) ?_
      refine consL rfl (fun K hK => ?_) AllReadyH.nil
      have hal : Below wd.heap.size wd (wd.alloc (.cells #[.int .i64 (T.last + 1), .int .i64 conn, .int .i64 slot, .bool false] 59)) := (Below.refl _ _).alloc (Nat.le_refl _) _
      refine step_appE Try.eS (.tmp 48) (.tmp 56) B (.slice A m c) T.l ((HE.out.2.1.below HO.out).below hal) (by have := HT.out.1.blk.lt; have := HT.out.1.lp; have := HE.out.2.2.2.2.size; have := HO.out.size; have := hal.size; omega) (some ⟨wd.heap.size, 0, none⟩) 1 1 [⟨T.last + 1, conn, slot, false⟩] (Blk.rdC Try.eS (Blk.new wd 59 _) rfl) (fun h => by cases h) (by have := HT.out.1.small; simp; omega) rfl rfl rfl rfl ?_
      intro A9 n9 c9 w9 hG
      have b9 : Blk w9 p 54 #[.slice A m c, .int .i64 (T.last + 1), .map (some mb)] := ((HE.out.1.below HO.out).below hal).keep (hG.grown.block _ ((HE.out.1.below HO.out).below hal).lt (fun e => HE.out.2.1.ne HE.out.1 (by decide) e.symm))
      have hz : Turn (p :: V) wE w9 ∧ w9.cell? ⟨p, 1, none⟩ = some (.int .i64 (T.last + 1)) := ⟨hHeld.1.grown hG.grown (fun k hk => .inl (by rw [← HV.out]; simp [hk])), b9.cell 1⟩
      have f9 := b9.frozen 0
      have H9 := Lib.hid (And.intro hG (And.intro b9 (And.intro hz.1 hal)))
      refine hK.out _ _ hz (fun hHeld => ?_)
      clear hK K hz hG b9 hal
      try simp only [Act.put, List.setIfInBounds_toArray, List.set_cons_zero, List.set_cons_succ]
      refine takeL (i := 14) (v := ?_) rfl (by kernel_rfl) (by kernel_rfl) (by kernel_rfl) (fun _ _ _ h => h) (Or.inl ⟨by rfl, ?_⟩) hHeld ?_
      rotate_left
      focus (intro wq hSw; clear hSw; go_simp; try with_reducible rfl)
      try simp only [Act.put, List.setIfInBounds_toArray, List.set_cons_zero, List.set_cons_succ]
      refine takeL (i := 15) (v := ?_) rfl (by kernel_rfl) (by kernel_rfl) (by kernel_rfl) (fun _ _ _ h => h) (Or.inl ⟨by rfl, ?_⟩) hHeld ?_
      rotate_left
      focus (intro wq hSw; clear hSw; go_simp; try with_reducible rfl)
      try simp only [Act.put, List.setIfInBounds_toArray, List.set_cons_zero, List.set_cons_succ]
      refine wpAnyH_ready (rs := [16]) (by kernel_rfl) (by simp) ?_
      refine consL rfl (fun K hK => ?_) AllReadyH.nil
      have d9 := H9.out.2.1.cell 0
      simp only [List.getElem?_toArray, List.getElem?_cons_succ, List.getElem?_cons_zero] at d9
      go_simp
      have b10 := H9.out.2.1.set_ 0 (.slice A9 n9 c9)
      simp at b10
      have hz : Turn (p :: V) wE (w9.setCell ⟨p, 0, none⟩ (.slice A9 n9 c9)) ∧ (w9.setCell ⟨p, 0, none⟩ (.slice A9 n9 c9)).cell? ⟨p, 1, none⟩ = some (.int .i64 (T.last + 1)) := ⟨hHeld.1.setCell (.inl (by simp)) _, b10.cell 1⟩
      have H10 := Lib.hid (And.intro b10 hz.1)
      refine hK.out _ _ hz (fun hHeld => ?_)
      clear hK K f9 b10 hz d9
      try simp only [Act.put, List.setIfInBounds_toArray, List.set_cons_zero, List.set_cons_succ]
      refine wpAnyH_done (by kernel_rfl) ?_ _
      refine NoPanic.normal ?_
      clear hHeld
      have q1 := H10.out.1.cell 1
      simp only [List.getElem?_toArray, List.getElem?_cons_succ, List.getElem?_cons_zero] at q1
      go_wp2_with fail
      go_ret2
      have hT10 : Turn [p] w9 (w9.setCell ⟨p, 0, none⟩ (.slice A9 n9 c9)) := (Turn.refl _ _).setCell (.inl (by simp)) _
      have hpw := HT.out.1.blk.lt
      have hlm := HT.out.1.map.lt
      have hrow : OwnE Try.eS (w9.setCell ⟨p, 0, none⟩ (.slice A9 n9 c9)) B (.slice A9 n9 c9) (T.l ++ [⟨T.last + 1, conn, slot, false⟩]) := H9.out.1.own.turn hT10 (fun g hg hm => by simp at hm; subst hm; exact H9.out.1.own.ne H9.out.2.1 (by decide) hg)
      have hmS : mb ∉ p :: V := fun hm => by
        rcases List.mem_cons.1 hm with e | e
        · exact HT.out.1.map.ne HT.out.1.blk e
        · rw [← HV.out] at e; obtain ⟨cs, hcs⟩ := HT.out.1.row.blk (g := mb) (by simpa using e); exact HT.out.1.map.ne hcs rfl
      have hmap : MapIs (w9.setCell ⟨p, 0, none⟩ (.slice A9 n9 c9)) mb T.n T.who := HE.out.2.2.1.keep (H10.out.2.block mb HE.out.2.2.1.lt hmS)
      have hTw : Turn (p :: V) w (w9.setCell ⟨p, 0, none⟩ (.slice A9 n9 c9)) := (HE.out.2.2.2.2.more (by simp)).trans H10.out.2 (fun x hx => .inl hx)
      refine ⟨rfl, blocks A9 n9 c9 mb p, ⟨A9, n9, c9, mb, ⟨H10.out.1, hrow, hmap, HT.out.1.lp, HT.out.1.lm, by have := HN.out.2.1; simp [PT.added]; omega, fun x hx => ?_⟩, rfl⟩, hTw.more (fun x hx => ?_), fun x hx => ?_⟩
      · rcases List.mem_append.1 hx with e | e
        · exact HT.out.1.wf x e
        · simp at e; subst e; exact ⟨WalkArith.wf_i64 (show -9223372036854775808 ≤ T.last + 1 ∧ T.last + 1 ≤ 9223372036854775807 by omega), hc, hs⟩
      · rw [← HT.out.2.2.2.2.2.1]; unfold blocks; rw [HV.out]; rcases List.mem_cons.1 hx with e | e
        · rw [e]; simp
        · simp [e]
      · rw [← HT.out.2.2.2.2.2.1]; unfold blocks at hx ⊢
        rcases List.mem_cons.1 hx with e | e
        · left; rw [e]; simp
        · rcases List.mem_cons.1 e with e | e
          · left; rw [e]; simp
          · rcases H9.out.1.at_ with e' | e'
            · left; rw [e'] at e; simp [e]
            · right; rw [e'] at e; simp at e; subst e; have := HE.out.2.2.2.2.size; have := HO.out.size; have := H9.out.2.2.2.size; omega
end Go.Proofs.Ytnpncbpbeikcaaa
