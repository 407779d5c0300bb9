/-
  Sessions: Login, Logout, All.
-/
import Derived.Test.YtnpncbpbeikcaaaSes7
import Derived.Test.YtnpncbpbeikcaaaRange
import Derived.OwnWalkIn
import Derived.RangeFuncBound
import Derived.RangeFuncCalls
import Derived.TacticsInMore
import Derived.LoopNIn
import Derived.LoopIn
namespace Go.Proofs.Ytnpncbpbeikcaaa
open Go.RowKit Go.Maps

theorem TbAt.rowNe {W : World} {B p : Nat} {A : Option Addr} {m c mb : Nat} {T : PT} (h : TbAt W B p A m c mb T) : ∀ g, (Value.slice A m c).ownBlock = some g → g ∉ [mb] := fun g hg hm => by
  obtain ⟨cs, hcs⟩ := h.row.blk hg
  simp at hm
  exact h.map.ne hcs hm.symm
theorem TbAt.pNe {W : World} {B p : Nat} {A : Option Addr} {m c mb : Nat} {T : PT} (h : TbAt W B p A m c mb T) : p ≠ mb := fun e => h.map.ne h.blk e.symm
theorem TbAt.mapped {W W' : World} {B p : Nat} {A : Option Addr} {m c mb : Nat} {T : PT} (h : TbAt W B p A m c mb T) {n : Nat} {f : Who} (hm : MapIs W' mb n f) (ht : Turn [mb] W W') : TbAt W' B p A m c mb ⟨T.l, T.last, f, n⟩ :=
  ⟨h.blk.turn ht (by simp; exact h.pNe), h.row.turn ht h.rowNe, hm, h.lp, h.lm, h.small, h.wf⟩
def PT.loginW (T : PT) (conn slot user : Int) : PT := if T.mayW conn slot user = 0 then ⟨T.l, T.last, putW T.who conn slot user, T.n + 1⟩ else T
theorem login_nil (a b c : Int) (w : World) : Calls Try.prog 16 #[.pointer none, .int .i64 a, .int .i64 b, .int .i64 c] w fun e w' => e = .returned (.int .i64 179) ∧ Below w.heap.size w w' := by
  go_enter Try.func16, Try.ntmps16
  go_wp2_with fail
  refine (may_nil a b c w).mono ?_
  rintro e w1 ⟨rfl, hb⟩
  have HB := Lib.hid hb
  clear hb
  go_wp2_with fail
  go_ret
  exact ⟨rfl, HB.out⟩
set_option maxHeartbeats 1000000 in
theorem login_any (B p : Nat) (S : List Nat) (T : PT) (conn slot user : Int) (w : World) (h : Tb w B p S T) (hc : wf64 conn) (hs : wf64 slot) (hu : wf64 user) (hn : T.n < 1000000) :
    Calls Try.prog 16 #[.pointer (some ⟨p, 0, none⟩), .int .i64 conn, .int .i64 slot, .int .i64 user] w (Did B p S w (.int .i64 (T.mayW conn slot user)) (T.loginW conn slot user)) := by
  obtain ⟨rv, hrv⟩ : ∃ rv, T.mayW conn slot user = rv := ⟨_, rfl⟩
  have hm := may_any B p S T conn slot user w h hc hs
  rw [hrv] at hm
  rw [hrv]
  have HM := Lib.hid (And.intro hm (And.intro h hrv))
  clear hm h hrv
  go_enter Try.func16, Try.ntmps16
  go_wp2_with fail
  refine HM.out.1.mono ?_
  rintro e w1 ⟨rfl, hb1⟩
  have H1 := Lib.hid (And.intro hb1 (HM.out.2.1.below hb1))
  clear hb1
  by_cases h0 : rv = 0
  · obtain ⟨A, m, c, mb, hT, hS⟩ := H1.out.2
    obtain ⟨q0, q1, q2⟩ := hT.cells
    have HT := Lib.hid (And.intro hT hS)
    clear hT hS
    subst h0
    have hn2 : T.n < maxLen := by unfold maxLen; omega
    go_wp2_with (first | (at_mapUpdate; go_must (refine wp_put _ _ _ mb T.n T.who conn slot user HT.out.1.map hn2 hc hs hu rfl rfl rfl rfl rfl ?_); intro w2 hm2 ht2; have H2 := Lib.hid (And.intro hm2 ht2); clear hm2 ht2) | go_in)
    go_ret
    have hr : T.loginW conn slot user = ⟨T.l, T.last, putW T.who conn slot user, T.n + 1⟩ := by unfold PT.loginW; rw [if_pos HM.out.2.2]
    rw [hr]
    refine ⟨rfl, S, ⟨A, m, c, mb, HT.out.1.mapped H2.out.1 H2.out.2, HT.out.2⟩, ?_, fun x hx => .inl hx⟩
    exact (Turn.of_below S H1.out.1).trans H2.out.2 (fun x hx => .inl (by simp at hx; subst hx; rw [HT.out.2]; unfold blocks; simp))
  · have hd : (rv == 0) = false := by simp [h0]
    have hd2 : decide (rv = 0) = false := decide_eq_false h0
    go_wp2_with fail
    go_ret
    have hr : T.loginW conn slot user = T := by unfold PT.loginW; rw [if_neg (by rw [HM.out.2.2]; exact h0)]
    rw [hr]
    exact ⟨rfl, S, H1.out.2, Turn.of_below _ H1.out.1, fun x hx => .inl hx⟩
def PT.logoutW (T : PT) (conn slot : Int) : Int × PT := if T.user conn slot = -1 then (257, T) else (0, ⟨T.l, T.last, delW T.who conn slot, T.n⟩)
theorem logout_nil (a b : Int) (w : World) : Calls Try.prog 18 #[.pointer none, .int .i64 a, .int .i64 b] w fun e w' => e = .returned (.int .i64 179) ∧ Below w.heap.size w w' := by
  have HB := Lib.hid ((Below.refl w.heap.size w).alloc (Nat.le_refl _) (.cells #[.int .i64 a, .int .i64 b] 56))
  go_enter Try.func18, Try.ntmps18
  go_wp2_with fail
  go_ret
  exact ⟨rfl, HB.out⟩
set_option maxHeartbeats 1000000 in
theorem logout_any (B p : Nat) (S : List Nat) (T : PT) (conn slot : Int) (w : World) (h : Tb w B p S T) (hc : wf64 conn) (hs : wf64 slot) :
    Calls Try.prog 18 #[.pointer (some ⟨p, 0, none⟩), .int .i64 conn, .int .i64 slot] w (Did B p S w (.int .i64 (T.logoutW conn slot).1) (T.logoutW conn slot).2) := by
  obtain ⟨X, hX⟩ : ∃ X, w.heap.size = X := ⟨_, rfl⟩
  obtain ⟨wA, hwA⟩ : ∃ wA, w.alloc (.cells #[.int .i64 conn, .int .i64 slot] 56) = wA := ⟨_, rfl⟩
  have bA : Blk wA X 56 #[.int .i64 conn, .int .i64 slot] := by rw [← hwA, ← hX]; exact Blk.new _ _ _
  have hbA : Below w.heap.size w wA := by rw [← hwA]; exact (Below.refl _ _).alloc (Nat.le_refl _) _
  have hTA : Tb wA B p S T := h.below hbA
  have g0 := bA.cell 0
  have g1 := bA.cell 1
  simp only [List.getElem?_toArray, List.getElem?_cons_succ, List.getElem?_cons_zero] at g0 g1
  obtain ⟨u, hu⟩ : ∃ u, T.user conn slot = u := ⟨_, rfl⟩
  have hU := user_any B p S T conn slot wA hTA hc hs
  rw [show (T.who conn slot).getD (-1) = u from hu] at hU
  have H := Lib.hid (And.intro hU (And.intro hTA (And.intro bA (And.intro hbA (And.intro hX hu)))))
  clear hU hTA bA hbA hu h
  go_enter Try.func18, Try.ntmps18
  go_wp2_with fail
  try rw [hwA]
  refine H.out.1.mono ?_
  rintro e w1 ⟨rfl, hb1⟩
  have H1 := Lib.hid (And.intro (H.out.2.1.below hb1) (And.intro (H.out.2.2.1.below hb1) (H.out.2.2.2.1.trans (hb1.mono H.out.2.2.2.1.size))))
  clear hb1 g0 g1
  by_cases h0 : u = -1
  · subst h0
    go_wp2_with fail
    go_ret
    have hr : T.logoutW conn slot = (257, T) := by unfold PT.logoutW; rw [if_pos H.out.2.2.2.2.2]
    rw [hr]
    exact ⟨rfl, S, H1.out.1, Turn.of_below _ H1.out.2.2, fun x hx => .inl hx⟩
  · have hd : (u == -1) = false := by simp [h0]
    have hd2 : decide (u = -1) = false := decide_eq_false h0
    have hXw := H.out.2.2.2.2.1
    obtain ⟨A, m, c, mb, hT, hS⟩ := H1.out.1
    have hXne : X ≠ mb := fun e => hT.map.ne H1.out.2.1 e.symm
    have HM := Lib.hid (And.intro hT.pNe hT.cells.2.2)
    have HG := Lib.hid (And.intro (show w1.cell? ⟨X, 0, none⟩ = some (.int .i64 conn) from H1.out.2.1.cell 0) (And.intro (show w1.cell? ⟨X, 1, none⟩ = some (.int .i64 slot) from H1.out.2.1.cell 1) hXne))
    have HT := Lib.hid (And.intro hT hS)
    clear hT hS hXne hX hXw
    go_wp2_with fail
    refine region_turn [mb] (by kernel_rfl) (fun wd hOld hHeld hSz => ?_)
    have HO := Lib.hid hOld
    clear hOld hSz
    refine takeL (i := 0) (v := ?_) rfl (by kernel_rfl) (by kernel_rfl) (by kernel_rfl) (fun _ _ _ h => h) (Or.inl ⟨by rfl, ?_⟩) hHeld ?_
    rotate_left
    focus (intro wq hSw; clear hSw; go_simp; try with_reducible rfl)
    try simp only [Act.put, List.setIfInBounds_toArray, List.set_cons_zero, List.set_cons_succ]
    refine takeL (i := 1) (v := ?_) rfl (by kernel_rfl) (by kernel_rfl) (by kernel_rfl) (fun _ _ _ h => h) (Or.inl ⟨by rfl, ?_⟩) hHeld ?_
    rotate_left
    focus (intro wq hSw; clear hSw; go_simp; try with_reducible rfl)
    try simp only [Act.put, List.setIfInBounds_toArray, List.set_cons_zero, List.set_cons_succ]
    refine takeL (i := 2) (v := ?_) rfl (by kernel_rfl) (by kernel_rfl) (by kernel_rfl) (fun _ _ _ h => h) (Or.inl ⟨by rfl, ?_⟩) hHeld ?_
    rotate_left
    focus (intro wq hSw; clear hSw; go_simp; try with_reducible rfl)
    try simp only [Act.put, List.setIfInBounds_toArray, List.set_cons_zero, List.set_cons_succ]
    refine takeL (i := 3) (v := ?_) rfl (by kernel_rfl) (by kernel_rfl) (by kernel_rfl) (fun _ _ _ h => h) (Or.inl ⟨by rfl, ?_⟩) hHeld ?_
    rotate_left
    focus (intro wq hSw; have f2 := cell_turn HM.out.2 hSw (by simp; exact HM.out.1); clear hSw; go_simp; try with_reducible rfl)
    try simp only [Act.put, List.setIfInBounds_toArray, List.set_cons_zero, List.set_cons_succ]
    refine takeL (i := 4) (v := ?_) rfl (by kernel_rfl) (by kernel_rfl) (by kernel_rfl) (fun _ _ _ h => h) (Or.inl ⟨by rfl, ?_⟩) hHeld ?_
    rotate_left
    focus (intro wq hSw; have g0 := cell_turn HG.out.1 hSw (by simp; exact HG.out.2.2); have g1 := cell_turn HG.out.2.1 hSw (by simp; exact HG.out.2.2); clear hSw; go_simp; try with_reducible rfl)
    try simp only [Act.put, List.setIfInBounds_toArray, List.set_cons_zero, List.set_cons_succ]
    refine wpAnyH_ready (rs := [5]) (by kernel_rfl) (by simp) ?_
    refine consL rfl (fun K hK => ?_) AllReadyH.nil
    refine step_del (.tmp 22) (.tmp 23) mb T.n T.who conn slot (HT.out.1.below HO.out).map hc hs rfl rfl rfl rfl ?_
    intro w3 hm3 hT3
    have hz := hHeld.trans hT3 (fun x hx => .inl hx)
    have H3 := Lib.hid (And.intro hm3 hz)
    refine hK.out _ _ hz (fun hHeld => ?_)
    clear hK K hz hm3 hT3
    try simp only [Act.put, List.setIfInBounds_toArray, List.set_cons_zero, List.set_cons_succ]
    refine wpAnyH_done (by kernel_rfl) ?_ _
    refine NoPanic.normal ?_
    clear hHeld
    go_wp2_with fail
    go_ret
    have hr : T.logoutW conn slot = (0, ⟨T.l, T.last, delW T.who conn slot, T.n⟩) := by unfold PT.logoutW; rw [if_neg (by rw [H.out.2.2.2.2.2]; exact h0)]
    rw [hr]
    refine ⟨rfl, S, ⟨A, m, c, mb, HT.out.1.mapped H3.out.1 H3.out.2, HT.out.2⟩, ?_, fun x hx => .inl hx⟩
    exact (Turn.of_below S H1.out.2.2).trans H3.out.2 (fun x hx => .inl (by simp at hx; subst hx; rw [HT.out.2]; unfold blocks; simp))
theorem all_any (v : Option Addr) (a b : Int) (w : World) : Calls Try.prog 22 #[.pointer v, .int .i64 a, .int .i64 b] w fun e w' =>
    e = .returned (.func (.func 40) #[] #[.pointer (some ⟨w.heap.size, 0, none⟩), .pointer (some ⟨w.heap.size + 1, 0, none⟩), .pointer (some ⟨w.heap.size + 2, 0, none⟩)]) ∧ Below w.heap.size w w' ∧ Blk w' w.heap.size 24 #[.pointer v] ∧ Blk w' (w.heap.size + 1) 3 #[.int .i64 a] ∧ Blk w' (w.heap.size + 2) 3 #[.int .i64 b] ∧ w'.heap.size = w.heap.size + 3 := by
  have h1 : (w.alloc (.cells #[.pointer v] 24)).heap.size = w.heap.size + 1 := by simp
  have h2 : ((w.alloc (.cells #[.pointer v] 24)).alloc (.cells #[.int .i64 a] 3)).heap.size = w.heap.size + 2 := by simp
  have b0 := ((Blk.new w 24 #[.pointer v]).alloc (.cells #[.int .i64 a] 3)).alloc (.cells #[.int .i64 b] 3)
  have b1 := (Blk.new (w.alloc (.cells #[.pointer v] 24)) 3 #[.int .i64 a]).alloc (.cells #[.int .i64 b] 3)
  have b2 := Blk.new ((w.alloc (.cells #[.pointer v] 24)).alloc (.cells #[.int .i64 a] 3)) 3 #[.int .i64 b]
  rw [h1] at b1
  rw [h2] at b2
  have hb : Below w.heap.size w (((w.alloc (.cells #[.pointer v] 24)).alloc (.cells #[.int .i64 a] 3)).alloc (.cells #[.int .i64 b] 3)) := (((Below.refl _ _).alloc (Nat.le_refl _) _).alloc (by simp) _).alloc (by simp; omega) _
  have H := Lib.hid (And.intro hb (And.intro b0 (And.intro b1 b2)))
  clear hb b0 b1 b2 h1 h2
  go_enter Try.func22, Try.ntmps22
  go_wp2_with fail
  go_ret
  exact ⟨by first | rfl | simp, H.out.1, H.out.2.1, H.out.2.2.1, H.out.2.2.2, by simp⟩
attribute [local go_sem] Oper.semAt_some
/-- The sessions of a connection and a slot. -/
def PT.of (T : PT) (conn slot : Int) : List PS := T.l.filter fun x => decide (x.c = conn ∧ x.s = slot)
def allArg (T : PT) (conn slot : Int) (k : Nat) (args : Array Value) (_ : World) : Prop := ∃ x, (T.of conn slot)[k]? = some x ∧ args = #[.int .i64 x.h]
/-- What the iterator needs. -/
structure AllMine (bt : Nat) (B p : Nat) (A : Option Addr) (m c mb : Nat) (T : PT) (conn slot : Int) (base : Nat) (_k : Nat) (W : World) : Prop where
  box : Blk W bt 24 #[.pointer (some ⟨p, 0, none⟩)]
  cc : Blk W (bt + 1) 3 #[.int .i64 conn]
  cs : Blk W (bt + 2) 3 #[.int .i64 slot]
  tab : TbAt W B p A m c mb T
  lo : bt + 2 < base
  low : ∀ x ∈ blocks A m c mb p, x < base
theorem AllMine.turn {bt B p : Nat} {A : Option Addr} {m c mb : Nat} {T : PT} {conn slot : Int} {base k k' : Nat} {W W' : World} {S : List Nat} (h : AllMine bt B p A m c mb T conn slot base k W) (ht : Turn S W W') (hS : ∀ t ∈ S, base ≤ t) : AllMine bt B p A m c mb T conn slot base k' W' := by
  have hlo := h.lo
  have hl := h.low
  unfold blocks at hl
  exact ⟨h.box.turn ht (fun hm => by have := hS _ hm; omega), h.cc.turn ht (fun hm => by have := hS _ hm; omega), h.cs.turn ht (fun hm => by have := hS _ hm; omega),
    h.tab.keep ht (fun hm => by have := hS _ hm; have := hl p (by simp); omega) (fun hm => by have := hS _ hm; have := hl mb (by simp); omega) (fun g hg hm => by have := hS _ hm; have := hl g (by simp [hg]); omega), h.lo, h.low⟩
theorem filter_get {l : List PS} {q : PS → Bool} {j : Nat} {x : PS} (hx : l[j]? = some x) (hq : q x = true) : (l.filter q)[((l.take j).filter q).length]? = some x := by
  have hs : l = l.take j ++ x :: l.drop (j + 1) := by
    have hlt : j < l.length := by
      rcases Nat.lt_or_ge j l.length with h | h
      · exact h
      · rw [List.getElem?_eq_none h] at hx; cases hx
    have h1 := (List.take_append_drop j l).symm
    rw [List.drop_eq_getElem_cons hlt] at h1
    rw [List.getElem?_eq_getElem hlt] at hx
    injection hx with hx
    rw [hx] at h1
    exact h1
  have : l.filter q = (l.take j).filter q ++ (x :: (l.drop (j + 1)).filter q) := by
    conv => lhs; rw [hs]
    rw [List.filter_append, List.filter_cons_of_pos hq]
  rw [this, List.getElem?_append_right (Nat.le_refl _), Nat.sub_self]
  rfl
set_option maxRecDepth 100000 in
set_option maxHeartbeats 2000000 in
theorem all_iter (bt B p : Nat) (A : Option Addr) (m c mb : Nat) (T : PT) (conn slot : Int) (base : Nat) :
    Iter Try.prog 40 #[.pointer (some ⟨bt, 0, none⟩), .pointer (some ⟨bt + 1, 0, none⟩), .pointer (some ⟨bt + 2, 0, none⟩)] (allArg T conn slot) (AllMine bt B p A m c mb T conn slot base) (T.of conn slot).length [] := by
  intro l' J Jx W hJ hJx hY h0 hM
  refine callsIn_of_wp Try.func40 rfl trivial ?_ rfl
  simp only [Try.ntmps40, List.size_toArray, List.length_cons, List.length_nil, Nat.reduceAdd, Nat.reduceSub, Array.replicate_succ, Array.replicate_zero, List.push_toArray, List.append_toArray, List.nil_append, List.cons_append]
  have q0 := hM.box.cell 0
  simp only [List.getElem?_toArray, List.getElem?_cons_succ, List.getElem?_cons_zero] at q0
  obtain ⟨r0, r1, r2⟩ := hM.tab.cells
  have hm : m ≤ 1000 := by rw [hM.tab.row.len]; exact hM.tab.small
  have hml := hM.tab.row.rd.1
  have HM := Lib.hid (And.intro hM hml)
  have HY := Lib.hid hY
  have hJ' := Lib.hid hJ
  clear hM hY hml r1 r2
  gi_wp2
  gi_loopw [14] (fun i wr => ∃ j : Nat, j ≤ m ∧ i = .int .i64 (j : Int) ∧ J ((T.l.take j).filter fun x => decide (x.c = conn ∧ x.s = slot)).length wr ∧ AllMine bt B p A m c mb T conn slot base 0 wr) (fun i _ => m - (intOf i).toNat)
  case atStart => exact ⟨0, by omega, rfl, h0, HM.out.1⟩
  case round =>
    obtain ⟨k, hk, rfl, hJk, hM⟩ := hrel
    clear h0
    by_cases hlt : k < m
    · have hlti : (k : Int) < m := by omega
      have hltd : decide ((k : Int) < (m : Int)) = true := decide_eq_true hlti
      have hk0 : ¬ ((k : Int) < 0) := by omega
      obtain ⟨x, hx⟩ : ∃ x, T.l[k]? = some x := ⟨_, List.getElem?_eq_getElem (by rw [HM.out.2]; exact hlt)⟩
      obtain ⟨g, off, hAe, hg, c0, c1, c2, c3⟩ := sess_at hM.tab.row.rd hx
      subst hAe
      by_cases h1 : x.c = conn
      · rw [h1] at c1
        by_cases h2 : x.s = slot
        · rw [h2] at c2
          obtain ⟨wA, hwA⟩ : ∃ wA, wr.alloc (.cells #[.int .i64 x.h, .int .i64 conn, .int .i64 slot, .bool x.rw] 59) = wA := ⟨_, rfl⟩
          have bA : Blk wA wr.heap.size 59 #[.int .i64 x.h, .int .i64 conn, .int .i64 slot, .bool x.rw] := by rw [← hwA]; exact Blk.new _ _ _
          have hbA : Below wr.heap.size wr wA := by rw [← hwA]; exact (Below.refl _ _).alloc (Nat.le_refl _) _
          have hMA : AllMine bt B p (some ⟨g, off, none⟩) m c mb T conn slot base 0 wA := hM.turn (Turn.of_below [] hbA) (by simp)
          have hJA := hJ'.out _ _ _ hJk (Turn.of_below [] hbA)
          have g0 := bA.cell 0
          have g1 := bA.cell 1
          have g2 := bA.cell 2
          have g3 := bA.cell 3
          have z0 := hMA.cc.cell 0
          have z1 := hMA.cs.cell 0
          simp only [List.getElem?_toArray, List.getElem?_cons_succ, List.getElem?_cons_zero] at g0 g1 g2 g3 z0 z1
          have HA := Lib.hid (And.intro hMA (And.intro hJA hx))
          have hlen0 : True := trivial
          have hq : decide (x.c = conn ∧ x.s = slot) = true := decide_eq_true ⟨h1, h2⟩
          have hfg := filter_get (q := fun x => decide (x.c = conn ∧ x.s = slot)) hx hq
          obtain ⟨N, hN⟩ : ∃ N, ((T.l.take k).filter fun x => decide (x.c = conn ∧ x.s = slot)).length = N := ⟨_, rfl⟩
          have hnext : ((T.l.take (k + 1)).filter fun x => decide (x.c = conn ∧ x.s = slot)).length = N + 1 := by rw [filter_take_t _ _ _ _ hx hq, List.length_append, hN]; rfl
          rw [hN] at hfg hJA
          have hlt2 : N < (T.of conn slot).length := by
            rcases Nat.lt_or_ge N (T.of conn slot).length with h | h
            · exact h
            · unfold PT.of at h; rw [List.getElem?_eq_none h] at hfg; cases hfg
          obtain ⟨fn, tmps, assign, body, hy, hR⟩ := HY.out N #[.int .i64 x.h] wA hlt2 hJA (hMA.turn (Turn.refl [] wA) (by simp)) ⟨x, hfg, rfl⟩
          have HR := Lib.hid (And.intro hR (And.intro hlt2 hnext))
          clear hR hfg hq hlt2 hnext hN hM hJk bA hbA hMA hJA hx hg q0 r0 h1 h2 hlen0
          gi_wp2_with fail
          refine HR.out.1.mono ?_
          rintro e W' (⟨rfl, hJ2, hM2⟩ | ⟨rfl, hJx2⟩)
          · have HJM := Lib.hid (And.intro hJ2 hM2)
            clear hJ2 hM2 hy
            gi_wp2
            go_roundw
            case rel => exact ⟨k + 1, by omega, by go_num, by rw [HR.out.2.2]; exact HJM.out.1, HJM.out.2.turn (Turn.refl [] _) (by simp)⟩
            case measure => simp [intOf]; omega
          · have HJM := Lib.hid hJx2
            clear hJx2 hy
            gi_wp2
            refine bodyPost_ret (results_none rfl _ _ _) rfl ?_
            exact ⟨⟨_, rfl⟩, .inr ⟨N, HR.out.2.1, HJM.out⟩⟩
        · have h2' : ¬ slot = x.s := fun e => h2 e.symm
          obtain ⟨wA, hwA⟩ : ∃ wA, wr.alloc (.cells #[.int .i64 x.h, .int .i64 conn, .int .i64 x.s, .bool x.rw] 59) = wA := ⟨_, rfl⟩
          have bA : Blk wA wr.heap.size 59 #[.int .i64 x.h, .int .i64 conn, .int .i64 x.s, .bool x.rw] := by rw [← hwA]; exact Blk.new _ _ _
          have hbA : Below wr.heap.size wr wA := by rw [← hwA]; exact (Below.refl _ _).alloc (Nat.le_refl _) _
          have hMA : AllMine bt B p (some ⟨g, off, none⟩) m c mb T conn slot base 0 wA := hM.turn (Turn.of_below [] hbA) (by simp)
          have hJA := hJ'.out _ _ _ hJk (Turn.of_below [] hbA)
          have g0 := bA.cell 0
          have g1 := bA.cell 1
          have g2 := bA.cell 2
          have g3 := bA.cell 3
          have z0 := hMA.cc.cell 0
          have z1 := hMA.cs.cell 0
          simp only [List.getElem?_toArray, List.getElem?_cons_succ, List.getElem?_cons_zero] at g0 g1 g2 g3 z0 z1
          have HA := Lib.hid (And.intro hMA (And.intro hJA hx))
          have hlen0 : True := trivial
          have hq : decide (x.c = conn ∧ x.s = slot) = false := decide_eq_false (fun e => h2 e.2)
          have hnext : (T.l.take (k + 1)).filter (fun x => decide (x.c = conn ∧ x.s = slot)) = (T.l.take k).filter (fun x => decide (x.c = conn ∧ x.s = slot)) := filter_take_f _ _ _ _ hx hq
          have HN := Lib.hid hnext
          clear hq hnext hM hJk bA hbA hMA hJA hx hg q0 r0 hlen0
          gi_wp2
          refine ⟨fun _ h => (by cases h), ?_⟩
          gi_wp2
          go_roundw
          case rel => exact ⟨k + 1, by omega, by go_num, by rw [HN.out]; exact HA.out.2.1, HA.out.1⟩
          case measure => simp [intOf]; omega
      · have h1' : ¬ conn = x.c := fun e => h1 e.symm
        obtain ⟨wA, hwA⟩ : ∃ wA, wr.alloc (.cells #[.int .i64 x.h, .int .i64 x.c, .int .i64 x.s, .bool x.rw] 59) = wA := ⟨_, rfl⟩
        have bA : Blk wA wr.heap.size 59 #[.int .i64 x.h, .int .i64 x.c, .int .i64 x.s, .bool x.rw] := by rw [← hwA]; exact Blk.new _ _ _
        have hbA : Below wr.heap.size wr wA := by rw [← hwA]; exact (Below.refl _ _).alloc (Nat.le_refl _) _
        have hMA : AllMine bt B p (some ⟨g, off, none⟩) m c mb T conn slot base 0 wA := hM.turn (Turn.of_below [] hbA) (by simp)
        have hJA := hJ'.out _ _ _ hJk (Turn.of_below [] hbA)
        have g0 := bA.cell 0
        have g1 := bA.cell 1
        have g2 := bA.cell 2
        have g3 := bA.cell 3
        have z0 := hMA.cc.cell 0
        have z1 := hMA.cs.cell 0
        simp only [List.getElem?_toArray, List.getElem?_cons_succ, List.getElem?_cons_zero] at g0 g1 g2 g3 z0 z1
        have HA := Lib.hid (And.intro hMA (And.intro hJA hx))
        have hlen0 : True := trivial
        have hq : decide (x.c = conn ∧ x.s = slot) = false := decide_eq_false (fun e => h1 e.1)
        have hnext : (T.l.take (k + 1)).filter (fun x => decide (x.c = conn ∧ x.s = slot)) = (T.l.take k).filter (fun x => decide (x.c = conn ∧ x.s = slot)) := filter_take_f _ _ _ _ hx hq
        have HN := Lib.hid hnext
        clear hq hnext hM hJk bA hbA hMA hJA hx hg q0 r0 hlen0
        gi_wp2
        refine ⟨fun _ h => (by cases h), ?_⟩
        gi_wp2
        go_roundw
        case rel => exact ⟨k + 1, by omega, by go_num, by rw [HN.out]; exact HA.out.2.1, HA.out.1⟩
        case measure => simp [intOf]; omega
    · obtain rfl : k = m := by omega
      have hlti : ¬ ((k : Int) < k) := by omega
      rw [show T.l.take k = T.l from List.take_of_length_le (by rw [HM.out.2]; exact Nat.le_refl _)] at hJk
      have HE := Lib.hid hJk
      clear hJk hM q0 r0
      gi_wp2
      go_end0
      exact ⟨⟨_, rfl⟩, .inl HE.out⟩
end Go.Proofs.Ytnpncbpbeikcaaa
