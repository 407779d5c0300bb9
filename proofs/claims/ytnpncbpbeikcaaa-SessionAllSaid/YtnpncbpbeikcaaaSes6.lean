/-
  Sessions: Close, CloseAll, Drop, Slot, State, Used.
-/
import Derived.Test.YtnpncbpbeikcaaaSes5
namespace Go.Proofs.Ytnpncbpbeikcaaa
open Go.RowKit Go.Maps

def PT.seek (T : PT) (conn hh : Int) : Option PS := T.l.find? fun x => decide (x.h = hh ∧ x.c = conn)
theorem seek_none {l : List PS} {conn hh : Int} (h : ∀ x ∈ l, ¬ (x.h = hh ∧ x.c = conn)) : l.find? (fun x => decide (x.h = hh ∧ x.c = conn)) = none :=
  List.find?_eq_none.2 fun x hx => by rw [decide_eq_true_eq]; exact h x hx
theorem seek_some : ∀ {l : List PS} {conn hh : Int} {k : Nat} {x : PS}, l[k]? = some x → x.h = hh → x.c = conn → (∀ j y, j < k → l[j]? = some y → ¬ (y.h = hh ∧ y.c = conn)) → l.find? (fun x => decide (x.h = hh ∧ x.c = conn)) = some x
  | [], _, _, _, _, h, _, _, _ => by simp at h
  | y :: l, conn, hh, 0, x, h, h1, h2, _ => by
    simp at h; subst h
    rw [List.find?_cons_of_pos (by rw [decide_eq_true_eq]; exact ⟨h1, h2⟩)]
  | y :: l, conn, hh, k + 1, x, h, h1, h2, hn => by
    rw [List.find?_cons_of_neg (by rw [decide_eq_true_eq]; exact hn 0 y (by omega) rfl)]
    exact seek_some (by simpa using h) h1 h2 (fun j z hj hz => hn (j + 1) z (by omega) (by simpa using hz))
theorem FindRes.cases {A : Option Addr} {T : PT} {conn hh : Int} {e : Ending} (h : FindRes A T.l conn hh e) : (e = .returned (.pointer none) ∧ T.seek conn hh = none) ∨
    ∃ k x g off, e = .returned (.pointer (some ⟨g, off + k * 4, none⟩)) ∧ A = some ⟨g, off, none⟩ ∧ T.l[k]? = some x ∧ T.seek conn hh = some x := by
  rcases h with ⟨rfl, h⟩ | ⟨k, x, g, off, rfl, h1, h2, h3, h4, h5⟩
  · exact .inl ⟨rfl, seek_none h⟩
  · exact .inr ⟨k, x, g, off, rfl, h1, h2, seek_some h2 h3 h4 h5⟩
def PT.closeW (T : PT) (conn hh : Int) : Int × PT := match T.seek conn hh with | none => (179, T) | some _ => (0, T.closed fun x => decide (x.h = hh))
theorem Asked.of_box {kf : Nat} {caps : Array Value} {q : PS → Bool} {w : World} (he : ∀ args w, (callFunc kf args).run Try.prog w = .ok (.enter kf args) w)
    (ha : ∀ w' x, Below w.heap.size w w' → Calls Try.prog kf (#[.agg #[.int .i64 x.h, .int .i64 x.c, .int .i64 x.s, .bool x.rw]] ++ caps) w' fun e w'' => e = .returned (.bool (q x)) ∧ Below w'.heap.size w' w'') : Asked kf caps q w := ⟨he, ha⟩
/-- A box laid ahead of the call. -/
theorem Did.after {B p : Nat} {S : List Nat} {w wA w' : World} {v : Value} {T' : PT} (hb : Below w.heap.size w wA) (h : ∃ S', Tb w' B p S' T' ∧ Turn S wA w' ∧ InOr S S' wA.heap.size) : Did B p S w v T' (.returned v) w' := by
  obtain ⟨S', h1, h2, h3⟩ := h
  exact ⟨rfl, S', h1, (Turn.of_below [] hb).more (by simp) |>.trans h2 (fun x hx => .inl hx), fun x hx => (h3 x hx).imp id (fun h => Nat.le_trans hb.size h)⟩
theorem closeW_nil (a b : Int) (w : World) : Calls Try.prog 10 #[.pointer none, .int .i64 a, .int .i64 b] w fun e w' => e = .returned (.int .i64 179) ∧ Below w.heap.size w w' := by
  have hb : Below w.heap.size w (w.alloc (.cells #[.int .i64 b] 3)) := (Below.refl _ _).alloc (Nat.le_refl _) _
  have HB := Lib.hid hb
  clear hb
  go_enter Try.func10, Try.ntmps10
  go_wp2_with fail
  refine (find_nil a b _).mono ?_
  rintro e w1 ⟨rfl, rfl⟩
  go_wp2_with fail
  go_ret
  exact ⟨rfl, HB.out⟩
set_option maxHeartbeats 1000000 in
theorem closeW_any (B p : Nat) (S : List Nat) (T : PT) (conn hh : Int) (w : World) (h : Tb w B p S T) :
    Calls Try.prog 10 #[.pointer (some ⟨p, 0, none⟩), .int .i64 conn, .int .i64 hh] w (Did B p S w (.int .i64 (T.closeW conn hh).1) (T.closeW conn hh).2) := by
  obtain ⟨wA, hwA⟩ : ∃ wA, w.alloc (.cells #[.int .i64 hh] 3) = wA := ⟨_, rfl⟩
  have bA : Blk wA w.heap.size 3 #[.int .i64 hh] := by rw [← hwA]; exact Blk.new _ _ _
  have hbA : Below w.heap.size w wA := by rw [← hwA]; exact (Below.refl _ _).alloc (Nat.le_refl _) _
  have hA := h.below hbA
  have hAsk : Asked 31 #[.pointer (some ⟨w.heap.size, 0, none⟩)] (fun x => decide (x.h = hh)) wA := ⟨fun _ _ => by kernel_rfl, fun w' x hw' => close1_any _ hh x w' (bA.below hw')⟩
  have hcl := closes_any B p S T _ _ _ wA hA hAsk
  obtain ⟨A, m, c, mb, hT, hS⟩ := hA
  have hf := find_any B p A m c mb T conn hh wA hT
  have g0 := bA.cell 0
  simp only [List.getElem?_toArray, List.getElem?_cons_succ, List.getElem?_cons_zero] at g0
  have H := Lib.hid (And.intro h (And.intro hbA (And.intro hcl hf)))
  clear h bA hbA hcl hf hT hS hAsk
  go_enter Try.func10, Try.ntmps10
  go_wp2_with fail
  try rw [hwA]
  refine H.out.2.2.2.mono ?_
  rintro e w1 ⟨hres, rfl⟩
  rcases hres.cases with ⟨rfl, hs⟩ | ⟨k, x, g, off, rfl, _, _, hs⟩
  · have hr : T.closeW conn hh = (179, T) := by unfold PT.closeW; rw [hs]
    have HRs := Lib.hid hr
    clear hs hr hres
    go_wp2_with fail
    go_ret
    rw [HRs.out]
    exact Did.same H.out.1 H.out.2.1
  · have hr : T.closeW conn hh = (0, T.closed fun x => decide (x.h = hh)) := by unfold PT.closeW; rw [hs]
    have HRs := Lib.hid hr
    clear hs hr hres
    go_wp2_with fail
    refine H.out.2.2.1.mono ?_
    rintro e w2 ⟨A2, n2, c2, S2, rfl, _, hd⟩
    have HD := Lib.hid hd
    clear hd
    go_wp2_with fail
    go_ret
    rw [HRs.out]
    exact Did.after H.out.2.1 ⟨S2, HD.out⟩
/-- What closes a row of sessions: the handles, the table. -/
def Gone (B p : Nat) (S : List Nat) (w : World) (gone : List Int) (T' : PT) (e : Ending) (w' : World) : Prop := ∃ A m c S', e = .returned (.slice A m c) ∧ OwnE Try.eI w' w.heap.size (.slice A m c) gone ∧ Tb w' B p S' T' ∧ Turn S w w' ∧ InOr S S' w.heap.size
theorem Gone.after {B p : Nat} {S : List Nat} {w wA w' : World} {gone : List Int} {T' : PT} {A : Option Addr} {m c : Nat} {S' : List Nat} (hb : Below w.heap.size w wA) (h : OwnE Try.eI w' wA.heap.size (.slice A m c) gone ∧ Tb w' B p S' T' ∧ Turn S wA w' ∧ InOr S S' wA.heap.size) : Gone B p S w gone T' (.returned (.slice A m c)) w' := by
  obtain ⟨h0, h1, h2, h3⟩ := h
  exact ⟨A, m, c, S', rfl, h0.mono hb.size, h1, (Turn.of_below [] hb).more (by simp) |>.trans h2 (fun x hx => .inl hx), fun x hx => (h3 x hx).imp id (fun h => Nat.le_trans hb.size h)⟩
theorem closeAll_nil (conn slot : Int) (w : World) : Calls Try.prog 12 #[.pointer none, .int .i64 conn, .int .i64 slot] w fun e w' => e = .returned (.slice none 0 0) ∧ Below w.heap.size w w' := by
  have HB := Lib.hid (((Below.refl w.heap.size w).alloc (by simp) (.cells #[.int .i64 conn] 3)).alloc (by simp) (.cells #[.int .i64 slot] 3))
  go_enter Try.func12, Try.ntmps12
  go_wp2_with fail
  refine (closes_nil _ _).mono ?_
  rintro e w1 ⟨rfl, rfl⟩
  go_wp2_with fail
  go_ret
  exact ⟨rfl, HB.out⟩
set_option maxHeartbeats 1000000 in
theorem closeAll_any (B p : Nat) (S : List Nat) (T : PT) (conn slot : Int) (w : World) (h : Tb w B p S T) :
    Calls Try.prog 12 #[.pointer (some ⟨p, 0, none⟩), .int .i64 conn, .int .i64 slot] w (Gone B p S w ((T.l.filter (fun x => decide (x.c = conn ∧ x.s = slot))).map PS.h) (T.closed fun x => decide (x.c = conn ∧ x.s = slot))) := by
  obtain ⟨wA, hwA⟩ : ∃ wA, ((w.alloc (.cells #[.int .i64 conn] 3)).alloc (.cells #[.int .i64 slot] 3)) = wA := ⟨_, rfl⟩
  have bA : Blk wA w.heap.size 3 #[.int .i64 conn] := by rw [← hwA]; exact (Blk.new _ _ _).alloc _
  have bB : Blk wA (w.heap.size + 1) 3 #[.int .i64 slot] := by
    rw [← hwA]
    have := Blk.new (w.alloc (.cells #[.int .i64 conn] 3)) 3 #[.int .i64 slot]
    rwa [show (w.alloc (.cells #[.int .i64 conn] 3)).heap.size = w.heap.size + 1 by simp] at this
  have hbA : Below w.heap.size w wA := by rw [← hwA]; exact (((Below.refl w.heap.size w).alloc (by simp) (.cells #[.int .i64 conn] 3)).alloc (by simp) (.cells #[.int .i64 slot] 3))
  have hAsk : Asked 35 #[.pointer (some ⟨w.heap.size, 0, none⟩), .pointer (some ⟨w.heap.size + 1, 0, none⟩)] (fun x => decide (x.c = conn ∧ x.s = slot)) wA := ⟨fun _ _ => by kernel_rfl, fun w' x hw' => closeAll1_any _ _ conn slot x w' (bA.below hw') (bB.below hw')⟩
  have hcl := closes_any B p S T _ _ _ wA (h.below hbA) hAsk
  have H := Lib.hid (And.intro hbA hcl)
  clear h bA bB hbA hcl hAsk
  go_enter Try.func12, Try.ntmps12
  go_wp2_with fail
  try rw [hwA]
  refine H.out.2.mono ?_
  rintro e w2 ⟨A2, n2, c2, S2, rfl, hd⟩
  have HD := Lib.hid hd
  clear hd
  go_wp2_with fail
  go_ret
  exact Gone.after H.out.1 HD.out
theorem drop_nil (conn : Int) (w : World) : Calls Try.prog 15 #[.pointer none, .int .i64 conn] w fun e w' => e = .returned (.slice none 0 0) ∧ Below w.heap.size w w' := by
  have HB := Lib.hid ((Below.refl w.heap.size w).alloc (by simp) (.cells #[.int .i64 conn] 3))
  go_enter Try.func15, Try.ntmps15
  go_wp2_with fail
  refine (closes_nil _ _).mono ?_
  rintro e w1 ⟨rfl, rfl⟩
  go_wp2_with fail
  go_ret
  exact ⟨rfl, HB.out⟩
set_option maxHeartbeats 1000000 in
theorem drop_any (B p : Nat) (S : List Nat) (T : PT) (conn : Int) (w : World) (h : Tb w B p S T) :
    Calls Try.prog 15 #[.pointer (some ⟨p, 0, none⟩), .int .i64 conn] w (Gone B p S w ((T.l.filter (fun x => decide (x.c = conn))).map PS.h) (T.closed fun x => decide (x.c = conn))) := by
  obtain ⟨wA, hwA⟩ : ∃ wA, (w.alloc (.cells #[.int .i64 conn] 3)) = wA := ⟨_, rfl⟩
  have bA : Blk wA w.heap.size 3 #[.int .i64 conn] := by rw [← hwA]; exact Blk.new _ _ _
  have hbA : Below w.heap.size w wA := by rw [← hwA]; exact ((Below.refl w.heap.size w).alloc (by simp) (.cells #[.int .i64 conn] 3))
  have hAsk : Asked 36 #[.pointer (some ⟨w.heap.size, 0, none⟩)] (fun x => decide (x.c = conn)) wA := ⟨fun _ _ => by kernel_rfl, fun w' x hw' => drop1_any _ conn x w' (bA.below hw')⟩
  have hcl := closes_any B p S T _ _ _ wA (h.below hbA) hAsk
  have H := Lib.hid (And.intro hbA hcl)
  clear h bA hbA hcl hAsk
  go_enter Try.func15, Try.ntmps15
  go_wp2_with fail
  try rw [hwA]
  refine H.out.2.mono ?_
  rintro e w2 ⟨A2, n2, c2, S2, rfl, hd⟩
  have HD := Lib.hid hd
  clear hd
  go_wp2_with fail
  go_ret
  exact Gone.after H.out.1 HD.out
def PT.slotW (T : PT) (conn hh : Int) : Int × Bool := match T.seek conn hh with | none => (0, false) | some x => (x.s, true)
theorem slot_nil (a b : Int) (w : World) : Calls Try.prog 23 #[.pointer none, .int .i64 a, .int .i64 b] w fun e w' => e = .returned (.tuple #[.int .i64 0, .bool false]) ∧ w = w' := by
  go_enter Try.func23, Try.ntmps23
  go_wp2_with fail
  refine (find_nil a b _).mono ?_
  rintro e w1 ⟨rfl, rfl⟩
  go_wp2_with fail
  go_ret2
  exact ⟨rfl, rfl⟩
set_option maxHeartbeats 1000000 in
theorem slot_any (B p : Nat) (S : List Nat) (T : PT) (conn hh : Int) (w : World) (h : Tb w B p S T) :
    Calls Try.prog 23 #[.pointer (some ⟨p, 0, none⟩), .int .i64 conn, .int .i64 hh] w fun e w' => e = .returned (.tuple #[.int .i64 (T.slotW conn hh).1, .bool (T.slotW conn hh).2]) ∧ w = w' := by
  obtain ⟨A, m, c, mb, hT, rfl⟩ := h
  have HF := Lib.hid (And.intro (find_any B p A m c mb T conn hh w hT) hT)
  clear hT
  go_enter Try.func23, Try.ntmps23
  go_wp2_with fail
  refine HF.out.1.mono ?_
  rintro e w1 ⟨hres, rfl⟩
  rcases hres.cases with ⟨rfl, hs⟩ | ⟨k, x, g, off, rfl, hA, hx, hs⟩
  · have hr : T.slotW conn hh = (0, false) := by unfold PT.slotW; rw [hs]
    have HRs := Lib.hid hr
    clear hs hr hres
    go_wp2_with fail
    go_ret2
    rw [HRs.out]
    exact ⟨rfl, rfl⟩
  · have hr : T.slotW conn hh = (x.s, true) := by unfold PT.slotW; rw [hs]
    have HRs := Lib.hid hr
    obtain ⟨g', off', hA', _, c0, c1, c2, c3⟩ := sess_at HF.out.2.row.rd hx
    rw [hA] at hA'
    injection hA' with hA'
    injection hA' with e1 e2
    subst e1 e2
    clear hs hr hres hA hx
    go_wp2_with fail
    go_ret2
    rw [HRs.out]
    exact ⟨rfl, rfl⟩
def stW (u : Int) (rw : Bool) : Int := if u = 0 then 4 else if u = 1 then (if rw = true then 3 else 1) else if rw = true then 2 else 0
def PT.stateW (T : PT) (conn hh : Int) : Int := match T.seek conn hh with | none => -1 | some x => stW (T.user x.c x.s) x.rw
theorem state_nil (a b : Int) (w : World) : Calls Try.prog 21 #[.pointer none, .int .i64 a, .int .i64 b] w fun e w' => e = .returned (.int .i64 (-1)) ∧ w = w' := by
  go_enter Try.func21, Try.ntmps21
  go_wp2_with fail
  refine (find_nil a b _).mono ?_
  rintro e w1 ⟨rfl, rfl⟩
  go_wp2_with fail
  go_ret
  exact ⟨rfl, rfl⟩
set_option maxHeartbeats 2000000 in
theorem state_any (B p : Nat) (S : List Nat) (T : PT) (conn hh : Int) (w : World) (h : Tb w B p S T) :
    Calls Try.prog 21 #[.pointer (some ⟨p, 0, none⟩), .int .i64 conn, .int .i64 hh] w fun e w' => e = .returned (.int .i64 (T.stateW conn hh)) ∧ Below w.heap.size w w' := by
  have h0 := h
  obtain ⟨A, m, c, mb, hT, rfl⟩ := h
  have HF := Lib.hid (And.intro (find_any B p A m c mb T conn hh w hT) (And.intro hT h0))
  clear hT h0
  go_enter Try.func21, Try.ntmps21
  go_wp2_with fail
  refine HF.out.1.mono ?_
  rintro e w1 ⟨hres, rfl⟩
  rcases hres.cases with ⟨rfl, hs⟩ | ⟨k, x, g, off, rfl, hA, hx, hs⟩
  · have hr : T.stateW conn hh = -1 := by unfold PT.stateW; rw [hs]
    have HRs := Lib.hid hr
    clear hs hr hres
    go_wp2_with fail
    go_ret
    rw [HRs.out]
    exact ⟨rfl, Below.refl _ _⟩
  · have hr : T.stateW conn hh = stW (T.user x.c x.s) x.rw := by unfold PT.stateW; rw [hs]
    obtain ⟨g', off', hA', _, c0, c1, c2, c3⟩ := sess_at HF.out.2.1.row.rd hx
    rw [hA] at hA'
    injection hA' with hA'
    injection hA' with e1 e2
    subst e1 e2
    have hw := HF.out.2.1.wf x (List.mem_of_getElem? hx)
    have hu := user_any B p _ T x.c x.s w HF.out.2.2 hw.2.1 hw.2.2
    obtain ⟨u, hu'⟩ : ∃ u, T.user x.c x.s = u := ⟨_, rfl⟩
    rw [show (T.who x.c x.s).getD (-1) = u from hu'] at hu
    obtain ⟨b, hb⟩ : ∃ b, x.rw = b := ⟨_, rfl⟩
    rw [hb] at c3
    rw [hu', hb] at hr
    have HRs := Lib.hid hr
    have HU := Lib.hid (And.intro hu (HF.out.2.1.row.rd))
    have HX := Lib.hid (And.intro hA (And.intro hx hb))
    clear hs hr hres hA hx hu hu' hw hb
    go_wp2_with fail
    refine HU.out.1.mono ?_
    rintro e w2 ⟨rfl, hb2⟩
    clear c0 c1 c2 c3
    obtain ⟨g', off', hA', _, c0, c1, c2, c3⟩ := sess_at (HU.out.2.below hb2) HX.out.2.1
    rw [HX.out.1] at hA'
    injection hA' with hA'
    injection hA' with e1 e2
    subst e1 e2
    rw [HX.out.2.2] at c3
    have H2 := Lib.hid hb2
    clear hb2
    by_cases h0 : u = 0
    · subst h0
      go_wp2_with fail
      go_ret
      exact ⟨by rw [HRs.out]; simp [stW, *], H2.out⟩
    have d0 : decide (u = 0) = false := decide_eq_false h0
    by_cases h1 : u = 1
    · subst h1
      cases b <;>
      · go_wp2_with fail
        go_ret
        exact ⟨by rw [HRs.out]; simp [stW, *], H2.out⟩
    have d1 : decide (u = 1) = false := decide_eq_false h1
    cases b <;>
    · go_wp2_with fail
      go_ret
      exact ⟨by rw [HRs.out]; simp [stW, *], H2.out⟩
def PT.usedW (T : PT) (slot : Int) : Bool := T.l.any fun x => decide (x.s = slot)
theorem used_nil (b : Int) (w : World) : Calls Try.prog 24 #[.pointer none, .int .i64 b] w fun e w' => e = .returned (.bool false) ∧ Below w.heap.size w w' := by
  have HB := Lib.hid ((Below.refl w.heap.size w).alloc (Nat.le_refl _) (.cells #[.int .i64 b] 3))
  go_enter Try.func24, Try.ntmps24
  go_wp2_with fail
  go_ret
  exact ⟨by first | rfl | simp, HB.out⟩
set_option maxHeartbeats 1000000 in
theorem used_any (B p : Nat) (S : List Nat) (T : PT) (slot : Int) (w : World) (h : Tb w B p S T) :
    Calls Try.prog 24 #[.pointer (some ⟨p, 0, none⟩), .int .i64 slot] w fun e w' => e = .returned (.bool (T.usedW slot)) ∧ Below w.heap.size w w' := by
  obtain ⟨A, m, c, mb, hT, rfl⟩ := h
  obtain ⟨wA, hwA⟩ : ∃ wA, w.alloc (.cells #[.int .i64 slot] 3) = wA := ⟨_, rfl⟩
  have bA : Blk wA w.heap.size 3 #[.int .i64 slot] := by rw [← hwA]; exact Blk.new _ _ _
  have hbA : Below w.heap.size w wA := by rw [← hwA]; exact (Below.refl _ _).alloc (Nat.le_refl _) _
  have hTA := hT.below hbA
  obtain ⟨q0, q1, q2⟩ := hTA.cells
  have hAsk : Asked 42 #[.pointer (some ⟨w.heap.size, 0, none⟩)] (fun x => decide (x.s = slot)) wA := ⟨fun _ _ => by kernel_rfl, fun w' x hw' => used1_any _ slot x w' (bA.below hw')⟩
  have hc := contains_any A m c T.l _ _ _ wA hTA.row.rd (by rw [hT.row.len]; exact hT.small) hAsk
  obtain ⟨r, hr⟩ : ∃ r, T.usedW slot = r := ⟨_, rfl⟩
  rw [show (T.l.any fun x => decide (x.s = slot)) = r from hr] at hc
  rw [hr]
  have H := Lib.hid (And.intro hc hbA)
  clear hT hTA hAsk hc bA hbA hr
  go_enter Try.func24, Try.ntmps24
  go_wp2_with fail
  try rw [hwA]
  refine H.out.1.mono ?_
  rintro e w2 ⟨rfl, hb⟩
  have H2 := Lib.hid (H.out.2.trans (hb.mono H.out.2.size))
  clear hb
  go_wp2_with fail
  go_ret
  exact ⟨by first | rfl | simp, H2.out⟩
end Go.Proofs.Ytnpncbpbeikcaaa
