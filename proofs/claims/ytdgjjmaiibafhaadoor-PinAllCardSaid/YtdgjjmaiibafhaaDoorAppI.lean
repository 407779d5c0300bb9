/-
  append on bytes: what the old row holds behind it; a drawn region in which one row of bytes of the call's own is appended to.
  A region that draws its order, in a round of a range over a function: what is shown of it plainly holds in the round. Over any program.
-/
import Derived.Test.YtdgjjmaiibafhaaDoorApp2
import Derived.Test.YtdgjjmaiibafhaaDoorReg
import Derived.Test.YtdgjjmaiibafhaaDoorRange
import Derived.Deep.RegionHeld3
import Derived.RegionIn
namespace Go.Proofs.YtdgjjmaiibafhaaDoor
open Go.RowKit

theorem run_app_keep (w : World) (base : Nat) (ty : TypeId) (v : Value) (l : List UInt8) (hown : Own w base v l) (A : Option Addr) (m c : Nat) (l2 : List UInt8) (hrd : Rd w A m c l2) (hlen : l.length + l2.length ≤ 140737488351232) (hbase : base ≤ w.heap.size) :
    ∃ v' w', (Builtin.append_ #[22, 22] ty #[v, .slice A m c]).run Tryd.prog w = .ok v' w' ∧ Own w' base v' (l ++ l2) ∧ Own w' base v l ∧ w.grownBy w' v.ownBlock := by
  obtain ⟨i0, hi, hz0, hz1, hz2⟩ := info_parts Tryd.infoU8
  obtain ⟨h1, h2, h3, ⟨rfl, hc⟩ | ⟨b, off, rfl, h4⟩⟩ := hrd
  · obtain rfl : m = 0 := by omega
    obtain rfl : l2 = [] := List.length_eq_zero_iff.1 h1.symm
    subst hc
    have hrun := run_append_owned_none (P := Tryd.prog) (w := w) base 22 ty 5 i0 1 Tryd.underlying22 hi v l.length (l.map B) hown
    exact ⟨v, w, hrun, by rw [List.append_nil]; exact hown, hown, ⟨rfl, rfl, rfl, Nat.le_refl _, fun _ _ _ => rfl⟩⟩
  · obtain ⟨v', w', hr, ho', hg, hn, hb⟩ := run_append_own_at (P := Tryd.prog) w base 22 ty 5 i0 (.int .u8 0) 1 1 Tryd.underlying22 hi hz0 hz1 hz2 rfl (by decide) v l.length (l.map B) hown ⟨b, off, none⟩ m c (l2.map B) (by simp [h1])
      h4.adds (map_one _) (by unfold maxLen; omega) (by omega) hbase
    refine ⟨v', w', hr, ?_, ?_, hg⟩
    · unfold Own
      rw [List.length_append, ← h1, List.map_append]
      exact ho'
    have hown' := hown
    obtain ⟨e1, ⟨rfl, e2⟩ | ⟨g, cap, cur, rfl, hbg, hh, hnc, hm, hcs, htk⟩⟩ := hown'
    · obtain rfl : l = [] := by simpa using e2
      exact Own.nil _ _
    · by_cases hroom : l.length + m ≤ cap
      · have hr2 := run_append_room (P := Tryd.prog) w 22 ty 5 i0 Tryd.underlying22 hi g l.length cap cur hh ⟨b, off, none⟩ m c (l2.map B) (by simp [h1, hz1]) h4.adds (map_one _) hroom (by rw [hz1, hcs, Nat.mul_one, List.length_map]; omega)
        rw [hr2] at hr
        injection hr with _ hw
        subst hw
        refine ⟨e1, .inr ⟨g, cap, _, rfl, hbg, setRow_heap w g cur _ 5 _ hh, hnc, hm, ?_, ?_⟩⟩
        · rw [hz1]
          simp only [List.size_toArray, List.length_append, List.length_take, List.length_drop, Array.length_toList, List.length_map]
          omega
        · rw [hz1]
          simp only [Nat.mul_one] at htk ⊢
          rw [htk, List.append_assoc]
          have e9 : (l.map B).length = l.length := List.length_map _
          rw [← e9, List.take_left]
      · have holds : ∀ j u, (l.map B)[j]? = some u → w.cell? ((⟨g, 0, none⟩ : Addr).add j) = some u := World.ownsRow.cells hown (g := g) rfl
        have hr2 := run_append_grow (P := Tryd.prog) w 22 ty 5 i0 (.int .u8 0) Tryd.underlying22 hi hz0 ⟨g, 0, none⟩ l.length cap (l.map B) (by simp [hz1]) holds ⟨b, off, none⟩ m c (l2.map B) (by simp [h1, hz1]) h4.adds (by omega) (by omega) (growslice_fits (by omega) (by rw [hz2]; omega))
        rw [hr2] at hr
        injection hr with _ hw
        subst hw
        exact (show Own w.drew base _ l from hown).alloc_ _
theorem op_app_keep {o : Oper} {a : Act} {w : World} {K : Act → World → Prop} {Q : Exit → Act → World → Prop} (s x : Operand)
    (ho : o.op = .call { callee := .builtin .append, args := #[s, x], argTypes := #[22, 22] })
    (base : Nat) (v : Value) (l : List UInt8) (hs : a.eval s = v) (hown : Own w base v l)
    (A : Option Addr) (m c : Nat) (l2 : List UInt8) (hx : a.eval x = .slice A m c) (hrd : Rd w A m c l2) (hlen : l.length + l2.length ≤ 140737488351232) (hbase : base ≤ w.heap.size)
    (h : ∀ A' n' c' w', Own w' base (.slice A' n' c') (l ++ l2) → Own w' base v l → w.grownBy w' v.ownBlock → K (a.put o.dst (.slice A' n' c')) w') :
    Oper.wp Tryd.prog o a w K Q := by
  obtain ⟨v', w', hrun, h1, h2, h3⟩ := run_app_keep w base o.type v l hown A m c l2 hrd hlen hbase
  unfold Oper.wp
  simp only [execOp, ho, resolve, invoke, builtin, Sem.run_bind, Sem.run_pure, Result.andThen_ok, List.map_toArray, List.map_cons, List.map_nil, hs, hx, hrun]
  obtain ⟨A', c', rfl, _⟩ := h1.shape
  exact h _ _ _ _ h1 h2 h3
theorem run_app_keep2 (w : World) (base : Nat) (ty : TypeId) (v : Value) (l : List UInt8) (hown : Own w base v l) (A : Option Addr) (m c : Nat) (l2 : List UInt8) (hrd : Rd w A m c l2) (hlen : l.length + l2.length ≤ 140737488351232) (hbase : base ≤ w.heap.size) :
    ∃ v' w', (Builtin.append_ #[22, 22] ty #[v, .slice A m c]).run Tryd.prog w = .ok v' w' ∧ Own w' base v' (l ++ l2) ∧ Own w' base v l ∧ w.grownBy w' v.ownBlock ∧ (v'.ownBlock = v.ownBlock ∨ v'.ownBlock = some w.heap.size) := by
  obtain ⟨i0, hi, hz0, hz1, hz2⟩ := info_parts Tryd.infoU8
  obtain ⟨h1, h2, h3, ⟨rfl, hc⟩ | ⟨b, off, rfl, h4⟩⟩ := hrd
  · obtain rfl : m = 0 := by omega
    obtain rfl : l2 = [] := List.length_eq_zero_iff.1 h1.symm
    subst hc
    have hrun := run_append_owned_none (P := Tryd.prog) (w := w) base 22 ty 5 i0 1 Tryd.underlying22 hi v l.length (l.map B) hown
    exact ⟨v, w, hrun, by rw [List.append_nil]; exact hown, hown, ⟨rfl, rfl, rfl, Nat.le_refl _, fun _ _ _ => rfl⟩, .inl rfl⟩
  · obtain ⟨v', w', hr, ho', hg, hn, hb⟩ := run_append_own_at (P := Tryd.prog) w base 22 ty 5 i0 (.int .u8 0) 1 1 Tryd.underlying22 hi hz0 hz1 hz2 rfl (by decide) v l.length (l.map B) hown ⟨b, off, none⟩ m c (l2.map B) (by simp [h1])
      h4.adds (map_one _) (by unfold maxLen; omega) (by omega) hbase
    refine ⟨v', w', hr, ?_, ?_, hg, hb⟩
    · unfold Own
      rw [List.length_append, ← h1, List.map_append]
      exact ho'
    have hown' := hown
    obtain ⟨e1, ⟨rfl, e2⟩ | ⟨g, cap, cur, rfl, hbg, hh, hnc, hm, hcs, htk⟩⟩ := hown'
    · obtain rfl : l = [] := by simpa using e2
      exact Own.nil _ _
    · by_cases hroom : l.length + m ≤ cap
      · have hr2 := run_append_room (P := Tryd.prog) w 22 ty 5 i0 Tryd.underlying22 hi g l.length cap cur hh ⟨b, off, none⟩ m c (l2.map B) (by simp [h1, hz1]) h4.adds (map_one _) hroom (by rw [hz1, hcs, Nat.mul_one, List.length_map]; omega)
        rw [hr2] at hr
        injection hr with _ hw
        subst hw
        refine ⟨e1, .inr ⟨g, cap, _, rfl, hbg, setRow_heap w g cur _ 5 _ hh, hnc, hm, ?_, ?_⟩⟩
        · rw [hz1]
          simp only [List.size_toArray, List.length_append, List.length_take, List.length_drop, Array.length_toList, List.length_map]
          omega
        · rw [hz1]
          simp only [Nat.mul_one] at htk ⊢
          rw [htk, List.append_assoc]
          have e9 : (l.map B).length = l.length := List.length_map _
          rw [← e9, List.take_left]
      · have holds : ∀ j u, (l.map B)[j]? = some u → w.cell? ((⟨g, 0, none⟩ : Addr).add j) = some u := World.ownsRow.cells hown (g := g) rfl
        have hr2 := run_append_grow (P := Tryd.prog) w 22 ty 5 i0 (.int .u8 0) Tryd.underlying22 hi hz0 ⟨g, 0, none⟩ l.length cap (l.map B) (by simp [hz1]) holds ⟨b, off, none⟩ m c (l2.map B) (by simp [h1, hz1]) h4.adds (by omega) (by omega) (growslice_fits (by omega) (by rw [hz2]; omega))
        rw [hr2] at hr
        injection hr with _ hw
        subst hw
        exact (show Own w.drew base _ l from hown).alloc_ _
theorem op_app_keep2 {o : Oper} {a : Act} {w : World} {K : Act → World → Prop} {Q : Exit → Act → World → Prop} (s x : Operand)
    (ho : o.op = .call { callee := .builtin .append, args := #[s, x], argTypes := #[22, 22] })
    (base : Nat) (v : Value) (l : List UInt8) (hs : a.eval s = v) (hown : Own w base v l)
    (A : Option Addr) (m c : Nat) (l2 : List UInt8) (hx : a.eval x = .slice A m c) (hrd : Rd w A m c l2) (hlen : l.length + l2.length ≤ 140737488351232) (hbase : base ≤ w.heap.size)
    (h : ∀ A' n' c' w', Own w' base (.slice A' n' c') (l ++ l2) → Own w' base v l → w.grownBy w' v.ownBlock → ((Value.slice A' n' c').ownBlock = v.ownBlock ∨ (Value.slice A' n' c').ownBlock = some w.heap.size) → K (a.put o.dst (.slice A' n' c')) w') :
    Oper.wp Tryd.prog o a w K Q := by
  obtain ⟨v', w', hrun, h1, h2, h3, h4⟩ := run_app_keep2 w base o.type v l hown A m c l2 hrd hlen hbase
  unfold Oper.wp
  simp only [execOp, ho, resolve, invoke, builtin, Sem.run_bind, Sem.run_pure, Result.andThen_ok, List.map_toArray, List.map_cons, List.map_nil, hs, hx, hrun]
  obtain ⟨A', c', rfl, _⟩ := h1.shape
  exact h _ _ _ _ h1 h2 h3 h4
/-- Of what was there only the row v may have turned, and that holds l yet. -/
def Tow (base : Nat) (v : Value) (l : List UInt8) (w0 w : World) : Prop := Turn v.ownBlock.toList w0 w ∧ Own w base v l
section
variable {base : Nat} {v : Value} {l : List UInt8} {w0 w1 w : World}
theorem Tow.refl (h : Own w base v l) : Tow base v l w w := ⟨Turn.refl _ w, h⟩
theorem Tow.drew (h : Tow base v l w0 w) : Tow base v l w0 w.drew := ⟨Turn.drew h.1, h.2⟩
theorem Tow.drewN (h : Tow base v l w0 w) (n : Nat) : Tow base v l w0 (w.drewN n) := ⟨Turn.drewN h.1 n, h.2⟩
theorem Tow.alloc (h : Tow base v l w0 w) (o : Obj) : Tow base v l w0 (w.alloc o) := ⟨Turn.alloc h.1 o, h.2.alloc_ o⟩
theorem Tow.trans (h : Tow base v l w0 w1) (h' : Tow base v l w1 w) : Tow base v l w0 w := ⟨Turn.trans h.1 h'.1 (fun _ hx => .inl hx), h'.2⟩
theorem Tow.old (h : Tow base v l w0 w1) (h' : Old w1 w) : Tow base v l w0 w := ⟨Turn.trans h.1 (Turn.of_below [] h') (fun _ hx => by cases hx), h.2.below h'⟩
theorem Tow.app (h : Tow base v l w0 w1) (hg : w1.grownBy w v.ownBlock) (ho : Own w base v l) : Tow base v l w0 w := ⟨h.1.grown hg (fun k hk => .inl (by rw [hk]; simp)), ho⟩
theorem Tow.notin (h : Own w0 base v l) {b : Nat} (hb : w0.heap.size ≤ b) : b ∉ v.ownBlock.toList := fun hm => by
  have := (h.lt (show _ = some b by simpa using hm)).2; omega
theorem Rd.tow {A : Option Addr} {m c : Nat} {l2 : List UInt8} (h : Rd w0 A m c l2) (hn : ∀ ad, A = some ad → ad.block ∉ v.ownBlock.toList) (ht : Tow base v l w0 w) : Rd w A m c l2 := h.turn ht.1 hn
theorem Rd.str_tow {A : Option Addr} {m c : Nat} {l2 : List UInt8} (h : Rd w0 A m c l2) (hn : ∀ ad, A = some ad → ad.block ∉ v.ownBlock.toList) (ht : Tow base v l w0 w) : (convert 22 9 (.slice A m c)).run Tryd.prog w = .ok (.string ⟨l2.toArray⟩) w := (h.tow hn ht).str
theorem wpAnyH_tow {P : Program} {md : Region.Mode} {ops : Array Oper} {Q : Exit → Act → World → Prop} (h01 : Tow base v l w0 w1) {fuel : Nat} {listed : Array Bool} {a : Act}
    (h : Tow base v l w1 w → wpAnyH P md ops Q (Tow base v l w1) fuel listed a w) (hw : Tow base v l w1 w) : wpAnyH P md ops Q (Tow base v l w0) fuel listed a w :=
  wpAnyH_mono (fun _ h' => h01.trans h') _ _ _ _ (h hw)
/-- From here on nothing that was there turns. -/
theorem wpAnyH_tow_old {P : Program} {md : Region.Mode} {ops : Array Oper} {Q : Exit → Act → World → Prop} (h01 : Tow base v l w0 w1) {fuel : Nat} {listed : Array Bool} {a : Act}
    (h : Old w1 w → wpAnyH P md ops Q (Old w1) fuel listed a w) (hw : Old w1 w) : wpAnyH P md ops Q (Tow base v l w0) fuel listed a w :=
  wpAnyH_mono (fun _ h' => h01.old h') _ _ _ _ (h hw)
theorem region_tow {P : Program} {ops : Array Oper} {Q : Exit → Act → World → Prop} {id : Nat} {a : Act} (ho : Own w base v l) (hm : P.follows .mixedOrders = true)
    (h : ∀ wd, Tow base v l w wd → w.heap.size = wd.heap.size → wpAnyH P .any ops (NoPanic Q) (Tow base v l w) ops.size (Array.replicate ops.size false) a wd) : (Code.region id ops true).wp P Q a w :=
  wp_region_noPanic (wp_region_held_drew hm (Tow.drew (Tow.refl ho)) (fun hS => h _ hS rfl))
end
end Go.Proofs.YtdgjjmaiibafhaaDoor
namespace Go.Proofs.YtdgjjmaiibafhaaDoor
open Go.RowKit

section
variable {P : Program} {ops : Array Oper} {Q : Exit → Act → World → Prop} {n l : Nat}
theorem oper_round {o : Oper} {a : Act} {w : World} {K : Act → World → Prop} (hd : ∀ c, o.op ≠ .defer c) (h : o.wp P a w K Q) : o.wpIn (Fence.wide.inRound l) n P a w K Q := by
  refine ⟨fun _ _ => trivial, ?_⟩
  rw [Oper.semAt_eq _ _ _ hd]
  unfold Oper.wp at h
  generalize (execOp a.eval o).run P w = r at *
  cases r with
  | ok x w' =>
    cases x with
    | value v => exact h
    | skip => exact h
    | defer d => exact h
    | enter f args => exact ⟨fun hs => by simp [Fence.wide, Fence.inRound] at hs, callsIn_wide.2 h⟩
    | row r args => exact ⟨fun hs => by simp [Fence.wide, Fence.inRound] at hs, fun c cs _ => let ⟨v, w'', hr, s⟩ := h c cs; ⟨v, w'', hr, stepsIn_wide.2 s⟩⟩
    | _ => exact h.elim
  | halt x w' => cases x <;> first | exact h | exact h.elim
theorem ops_round (hd : ∀ (j : Nat) (o : Oper) c, ops[j]? = some o → o.op ≠ .defer c) (hL : ¬ LetsOut Q) :
    ∀ (is : List Nat) (a : Act) (w : World), wpOps P ops Q is a w → wpOpsIn (Fence.wide.inRound l) n P ops Q is a w
  | [], _, _, h => h
  | i :: is, a, w, h => by
    unfold wpOps at h
    unfold wpOpsIn
    cases ho : ops[i]? with
    | none => rw [ho] at h; exact ops_round hd hL is a w h
    | some o =>
      rw [ho] at h
      dsimp only at h ⊢
      split
      · rename_i hw
        rw [if_pos hw] at h
        rcases h with h | h
        · exact Oper.wpIn_mono (fun a w h => ops_round hd hL is a w h) (oper_round (fun c => hd i o c ho) h)
        · exact absurd h.2 hL
      · rename_i hw
        rw [if_neg hw] at h
        exact ⟨fun _ _ => trivial, ops_round hd hL is _ w h⟩
def noDefer (ops : Array Oper) : Bool := ops.all fun o => match o.op with | .defer _ => false | _ => true
theorem noDefer_spec (h : noDefer ops = true) (j : Nat) (o : Oper) (c : Call) (hj : ops[j]? = some o) : o.op ≠ .defer c := by
  intro he
  unfold noDefer at h
  rw [Array.all_eq_true] at h
  obtain ⟨hlt, rfl⟩ := Array.getElem?_eq_some_iff.1 hj
  have := h j hlt
  rw [he] at this
  simp at this
theorem region_round {id : Nat} {a : Act} {w : World} (hd : noDefer ops = true) (hL : ¬ LetsOut Q) (hm : P.follows .mixedOrders = true) {S : World → Prop} (hS : S w.drew)
    (h : S w.drew → wpAnyH P .any ops Q S ops.size (Array.replicate ops.size false) a w.drew) : (Code.region id ops true).wpIn (Fence.wide.inRound l) n P Q a w :=
  wpIn_region_draw fun t => by
    simp only [Region.schedule, hm, Bool.true_or, if_true]
    exact ops_round (noDefer_spec hd) hL _ _ _ (wpAny_sound ops.size t _ a _ (wpAny_of_held _ _ _ _ (h hS)))
end
end Go.Proofs.YtdgjjmaiibafhaaDoor
