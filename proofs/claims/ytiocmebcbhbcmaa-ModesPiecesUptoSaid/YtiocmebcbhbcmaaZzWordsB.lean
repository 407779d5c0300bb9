/-
  append on bytes: what the old row holds behind it; a drawn region in which one row of bytes of the call's own is appended to.
  Modes: a row of bytes of one's own from a spot on: append keeps what lies ahead.
  Bytes as the walk meets them: shifts, and, or, products. Over any program.
-/
import Derived.Test.YtiocmebcbhbcmaaZzReg
import Derived.Deep.AppendSrc
import Derived.Test.YtiocmebcbhbcmaaWords
namespace Go.Proofs.Ytiocmebcbhbcmaa
open Go.RowKit

theorem run_app_keep (w : World) (base : Nat) (ty : TypeId) (v : Value) (l : List UInt8) (hown : Own w base v l) (A : Option Addr) (m c : Nat) (l2 : List UInt8) (hrd : Rd w A m c l2) (hlen : l.length + l2.length ≤ 140737488351232) (hbase : base ≤ w.heap.size) :
    ∃ v' w', (Builtin.append_ #[22, 22] ty #[v, .slice A m c]).run Try.prog w = .ok v' w' ∧ Own w' base v' (l ++ l2) ∧ Own w' base v l ∧ w.grownBy w' v.ownBlock := by
  obtain ⟨i0, hi, hz0, hz1, hz2⟩ := info_parts Try.infoU8
  obtain ⟨h1, h2, h3, ⟨rfl, hc⟩ | ⟨b, off, rfl, h4⟩⟩ := hrd
  · obtain rfl : m = 0 := by omega
    obtain rfl : l2 = [] := List.length_eq_zero_iff.1 h1.symm
    subst hc
    have hrun := run_append_owned_none (P := Try.prog) (w := w) base 22 ty 5 i0 1 Try.underlying22 hi v l.length (l.map B) hown
    exact ⟨v, w, hrun, by rw [List.append_nil]; exact hown, hown, ⟨rfl, rfl, rfl, Nat.le_refl _, fun _ _ _ => rfl⟩⟩
  · obtain ⟨v', w', hr, ho', hg, hn, hb⟩ := run_append_own_at (P := Try.prog) w base 22 ty 5 i0 (.int .u8 0) 1 1 Try.underlying22 hi hz0 hz1 hz2 rfl (by decide) v l.length (l.map B) hown ⟨b, off, none⟩ m c (l2.map B) (by simp [h1])
      h4.adds (map_one _) (by unfold maxLen; omega) (by omega) hbase
    refine ⟨v', w', hr, ?_, ?_, hg⟩
    · unfold Own
      rw [List.length_append, ← h1, List.map_append]
      exact ho'
    have hown' := hown
    obtain ⟨e1, ⟨rfl, e2⟩ | ⟨g, cap, cur, rfl, hbg, hh, hnc, hm, hcs, htk⟩⟩ := hown'
    · obtain rfl : l = [] := by simpa using e2
      exact Own.nil _ _
    · by_cases hroom : l.length + m ≤ cap
      · have hr2 := run_append_room (P := Try.prog) w 22 ty 5 i0 Try.underlying22 hi g l.length cap cur hh ⟨b, off, none⟩ m c (l2.map B) (by simp [h1, hz1]) h4.adds (map_one _) hroom (by rw [hz1, hcs, Nat.mul_one, List.length_map]; omega)
        rw [hr2] at hr
        injection hr with _ hw
        subst hw
        refine ⟨e1, .inr ⟨g, cap, _, rfl, hbg, setRow_heap w g cur _ 5 _ hh, hnc, hm, ?_, ?_⟩⟩
        · rw [hz1]
          simp only [List.size_toArray, List.length_append, List.length_take, List.length_drop, Array.length_toList, List.length_map]
          omega
        · rw [hz1]
          simp only [Nat.mul_one] at htk ⊢
          rw [htk, List.append_assoc]
          have e9 : (l.map B).length = l.length := List.length_map _
          rw [← e9, List.take_left]
      · have holds : ∀ j u, (l.map B)[j]? = some u → w.cell? ((⟨g, 0, none⟩ : Addr).add j) = some u := World.ownsRow.cells hown (g := g) rfl
        have hr2 := run_append_grow (P := Try.prog) w 22 ty 5 i0 (.int .u8 0) Try.underlying22 hi hz0 ⟨g, 0, none⟩ l.length cap (l.map B) (by simp [hz1]) holds ⟨b, off, none⟩ m c (l2.map B) (by simp [h1, hz1]) h4.adds (by omega) (by omega) (growslice_fits (by omega) (by rw [hz2]; omega))
        rw [hr2] at hr
        injection hr with _ hw
        subst hw
        exact (show Own w.drew base _ l from hown).alloc_ _
theorem op_app_keep {o : Oper} {a : Act} {w : World} {K : Act → World → Prop} {Q : Exit → Act → World → Prop} (s x : Operand)
    (ho : o.op = .call { callee := .builtin .append, args := #[s, x], argTypes := #[22, 22] })
    (base : Nat) (v : Value) (l : List UInt8) (hs : a.eval s = v) (hown : Own w base v l)
    (A : Option Addr) (m c : Nat) (l2 : List UInt8) (hx : a.eval x = .slice A m c) (hrd : Rd w A m c l2) (hlen : l.length + l2.length ≤ 140737488351232) (hbase : base ≤ w.heap.size)
    (h : ∀ A' n' c' w', Own w' base (.slice A' n' c') (l ++ l2) → Own w' base v l → w.grownBy w' v.ownBlock → K (a.put o.dst (.slice A' n' c')) w') :
    Oper.wp Try.prog o a w K Q := by
  obtain ⟨v', w', hrun, h1, h2, h3⟩ := run_app_keep w base o.type v l hown A m c l2 hrd hlen hbase
  unfold Oper.wp
  simp only [execOp, ho, resolve, invoke, builtin, Sem.run_bind, Sem.run_pure, Result.andThen_ok, List.map_toArray, List.map_cons, List.map_nil, hs, hx, hrun]
  obtain ⟨A', c', rfl, _⟩ := h1.shape
  exact h _ _ _ _ h1 h2 h3
theorem run_app_keep2 (w : World) (base : Nat) (ty : TypeId) (v : Value) (l : List UInt8) (hown : Own w base v l) (A : Option Addr) (m c : Nat) (l2 : List UInt8) (hrd : Rd w A m c l2) (hlen : l.length + l2.length ≤ 140737488351232) (hbase : base ≤ w.heap.size) :
    ∃ v' w', (Builtin.append_ #[22, 22] ty #[v, .slice A m c]).run Try.prog w = .ok v' w' ∧ Own w' base v' (l ++ l2) ∧ Own w' base v l ∧ w.grownBy w' v.ownBlock ∧ (v'.ownBlock = v.ownBlock ∨ v'.ownBlock = some w.heap.size) := by
  obtain ⟨i0, hi, hz0, hz1, hz2⟩ := info_parts Try.infoU8
  obtain ⟨h1, h2, h3, ⟨rfl, hc⟩ | ⟨b, off, rfl, h4⟩⟩ := hrd
  · obtain rfl : m = 0 := by omega
    obtain rfl : l2 = [] := List.length_eq_zero_iff.1 h1.symm
    subst hc
    have hrun := run_append_owned_none (P := Try.prog) (w := w) base 22 ty 5 i0 1 Try.underlying22 hi v l.length (l.map B) hown
    exact ⟨v, w, hrun, by rw [List.append_nil]; exact hown, hown, ⟨rfl, rfl, rfl, Nat.le_refl _, fun _ _ _ => rfl⟩, .inl rfl⟩
  · obtain ⟨v', w', hr, ho', hg, hn, hb⟩ := run_append_own_at (P := Try.prog) w base 22 ty 5 i0 (.int .u8 0) 1 1 Try.underlying22 hi hz0 hz1 hz2 rfl (by decide) v l.length (l.map B) hown ⟨b, off, none⟩ m c (l2.map B) (by simp [h1])
      h4.adds (map_one _) (by unfold maxLen; omega) (by omega) hbase
    refine ⟨v', w', hr, ?_, ?_, hg, hb⟩
    · unfold Own
      rw [List.length_append, ← h1, List.map_append]
      exact ho'
    have hown' := hown
    obtain ⟨e1, ⟨rfl, e2⟩ | ⟨g, cap, cur, rfl, hbg, hh, hnc, hm, hcs, htk⟩⟩ := hown'
    · obtain rfl : l = [] := by simpa using e2
      exact Own.nil _ _
    · by_cases hroom : l.length + m ≤ cap
      · have hr2 := run_append_room (P := Try.prog) w 22 ty 5 i0 Try.underlying22 hi g l.length cap cur hh ⟨b, off, none⟩ m c (l2.map B) (by simp [h1, hz1]) h4.adds (map_one _) hroom (by rw [hz1, hcs, Nat.mul_one, List.length_map]; omega)
        rw [hr2] at hr
        injection hr with _ hw
        subst hw
        refine ⟨e1, .inr ⟨g, cap, _, rfl, hbg, setRow_heap w g cur _ 5 _ hh, hnc, hm, ?_, ?_⟩⟩
        · rw [hz1]
          simp only [List.size_toArray, List.length_append, List.length_take, List.length_drop, Array.length_toList, List.length_map]
          omega
        · rw [hz1]
          simp only [Nat.mul_one] at htk ⊢
          rw [htk, List.append_assoc]
          have e9 : (l.map B).length = l.length := List.length_map _
          rw [← e9, List.take_left]
      · have holds : ∀ j u, (l.map B)[j]? = some u → w.cell? ((⟨g, 0, none⟩ : Addr).add j) = some u := World.ownsRow.cells hown (g := g) rfl
        have hr2 := run_append_grow (P := Try.prog) w 22 ty 5 i0 (.int .u8 0) Try.underlying22 hi hz0 ⟨g, 0, none⟩ l.length cap (l.map B) (by simp [hz1]) holds ⟨b, off, none⟩ m c (l2.map B) (by simp [h1, hz1]) h4.adds (by omega) (by omega) (growslice_fits (by omega) (by rw [hz2]; omega))
        rw [hr2] at hr
        injection hr with _ hw
        subst hw
        exact (show Own w.drew base _ l from hown).alloc_ _
theorem op_app_keep2 {o : Oper} {a : Act} {w : World} {K : Act → World → Prop} {Q : Exit → Act → World → Prop} (s x : Operand)
    (ho : o.op = .call { callee := .builtin .append, args := #[s, x], argTypes := #[22, 22] })
    (base : Nat) (v : Value) (l : List UInt8) (hs : a.eval s = v) (hown : Own w base v l)
    (A : Option Addr) (m c : Nat) (l2 : List UInt8) (hx : a.eval x = .slice A m c) (hrd : Rd w A m c l2) (hlen : l.length + l2.length ≤ 140737488351232) (hbase : base ≤ w.heap.size)
    (h : ∀ A' n' c' w', Own w' base (.slice A' n' c') (l ++ l2) → Own w' base v l → w.grownBy w' v.ownBlock → ((Value.slice A' n' c').ownBlock = v.ownBlock ∨ (Value.slice A' n' c').ownBlock = some w.heap.size) → K (a.put o.dst (.slice A' n' c')) w') :
    Oper.wp Try.prog o a w K Q := by
  obtain ⟨v', w', hrun, h1, h2, h3, h4⟩ := run_app_keep2 w base o.type v l hown A m c l2 hrd hlen hbase
  unfold Oper.wp
  simp only [execOp, ho, resolve, invoke, builtin, Sem.run_bind, Sem.run_pure, Result.andThen_ok, List.map_toArray, List.map_cons, List.map_nil, hs, hx, hrun]
  obtain ⟨A', c', rfl, _⟩ := h1.shape
  exact h _ _ _ _ h1 h2 h3 h4
/-- Of what was there only the row v may have turned, and that holds l yet. -/
def Tow (base : Nat) (v : Value) (l : List UInt8) (w0 w : World) : Prop := Turn v.ownBlock.toList w0 w ∧ Own w base v l
section
variable {base : Nat} {v : Value} {l : List UInt8} {w0 w1 w : World}
theorem Tow.refl (h : Own w base v l) : Tow base v l w w := ⟨Turn.refl _ w, h⟩
theorem Tow.drew (h : Tow base v l w0 w) : Tow base v l w0 w.drew := ⟨Turn.drew h.1, h.2⟩
theorem Tow.drewN (h : Tow base v l w0 w) (n : Nat) : Tow base v l w0 (w.drewN n) := ⟨Turn.drewN h.1 n, h.2⟩
theorem Tow.alloc (h : Tow base v l w0 w) (o : Obj) : Tow base v l w0 (w.alloc o) := ⟨Turn.alloc h.1 o, h.2.alloc_ o⟩
theorem Tow.trans (h : Tow base v l w0 w1) (h' : Tow base v l w1 w) : Tow base v l w0 w := ⟨Turn.trans h.1 h'.1 (fun _ hx => .inl hx), h'.2⟩
theorem Tow.old (h : Tow base v l w0 w1) (h' : Old w1 w) : Tow base v l w0 w := ⟨Turn.trans h.1 (Turn.of_below [] h') (fun _ hx => by cases hx), h.2.below h'⟩
theorem Tow.app (h : Tow base v l w0 w1) (hg : w1.grownBy w v.ownBlock) (ho : Own w base v l) : Tow base v l w0 w := ⟨h.1.grown hg (fun k hk => .inl (by rw [hk]; simp)), ho⟩
theorem Tow.notin (h : Own w0 base v l) {b : Nat} (hb : w0.heap.size ≤ b) : b ∉ v.ownBlock.toList := fun hm => by
  have := (h.lt (show _ = some b by simpa using hm)).2; omega
theorem Rd.tow {A : Option Addr} {m c : Nat} {l2 : List UInt8} (h : Rd w0 A m c l2) (hn : ∀ ad, A = some ad → ad.block ∉ v.ownBlock.toList) (ht : Tow base v l w0 w) : Rd w A m c l2 := h.turn ht.1 hn
theorem Rd.str_tow {A : Option Addr} {m c : Nat} {l2 : List UInt8} (h : Rd w0 A m c l2) (hn : ∀ ad, A = some ad → ad.block ∉ v.ownBlock.toList) (ht : Tow base v l w0 w) : (convert 22 9 (.slice A m c)).run Try.prog w = .ok (.string ⟨l2.toArray⟩) w := (h.tow hn ht).str
theorem wpAnyH_tow {P : Program} {md : Region.Mode} {ops : Array Oper} {Q : Exit → Act → World → Prop} (h01 : Tow base v l w0 w1) {fuel : Nat} {listed : Array Bool} {a : Act}
    (h : Tow base v l w1 w → wpAnyH P md ops Q (Tow base v l w1) fuel listed a w) (hw : Tow base v l w1 w) : wpAnyH P md ops Q (Tow base v l w0) fuel listed a w :=
  wpAnyH_mono (fun _ h' => h01.trans h') _ _ _ _ (h hw)
/-- From here on nothing that was there turns. -/
theorem wpAnyH_tow_old {P : Program} {md : Region.Mode} {ops : Array Oper} {Q : Exit → Act → World → Prop} (h01 : Tow base v l w0 w1) {fuel : Nat} {listed : Array Bool} {a : Act}
    (h : Old w1 w → wpAnyH P md ops Q (Old w1) fuel listed a w) (hw : Old w1 w) : wpAnyH P md ops Q (Tow base v l w0) fuel listed a w :=
  wpAnyH_mono (fun _ h' => h01.old h') _ _ _ _ (h hw)
theorem region_tow {P : Program} {ops : Array Oper} {Q : Exit → Act → World → Prop} {id : Nat} {a : Act} (ho : Own w base v l) (hm : P.follows .mixedOrders = true)
    (h : ∀ wd, Tow base v l w wd → w.heap.size = wd.heap.size → wpAnyH P .any ops (NoPanic Q) (Tow base v l w) ops.size (Array.replicate ops.size false) a wd) : (Code.region id ops true).wp P Q a w :=
  wp_region_noPanic (wp_region_held_drew hm (Tow.drew (Tow.refl ho)) (fun hS => h _ hS rfl))
end
end Go.Proofs.Ytiocmebcbhbcmaa
namespace Go.Proofs.Ytiocmebcbhbcmaa
set_option maxRecDepth 100000
open Go.RowKit

/-- No room, or a row's end. -/
def OwnO (w : World) (base : Nat) (v : Value) (l : List UInt8) : Prop :=
  (∃ A, v = .slice A 0 0 ∧ Rd w A 0 0 l) ∨ ∃ g c pre, v = .slice (some ⟨g, pre.length, none⟩) l.length c ∧ 0 < c ∧ Own w base (.slice (some ⟨g, 0, none⟩) (pre.length + l.length) (pre.length + c)) (pre ++ l)
theorem OwnO.of {w : World} {base : Nat} {v : Value} {l : List UInt8} (h : Own w base v l) : OwnO w base v l := by
  have h' := h
  rcases h.2 with ⟨rfl, e⟩ | ⟨g, cap, cur, rfl, _⟩
  · obtain rfl : l = [] := by simpa using e
    exact .inl ⟨none, rfl, Rd.nil w⟩
  · rcases Nat.eq_zero_or_pos cap with rfl | hc
    · have hr := h'.rd
      obtain rfl : l = [] := List.length_eq_zero_iff.1 (by have := hr.2.1; omega)
      exact .inl ⟨_, rfl, hr⟩
    · exact .inr ⟨g, cap, [], rfl, hc, by simpa using h'⟩
theorem OwnO.rd {w : World} {base : Nat} {A : Option Addr} {m c : Nat} {l : List UInt8} (h : OwnO w base (.slice A m c) l) : Rd w A m c l := by
  rcases h with ⟨A, h, h2⟩ | ⟨g, c', pre, h, hc, h2⟩
  · cases h
    exact h2
  · cases h
    have h3 := h2.rd.cut (k := pre.length) (by omega)
    rw [if_neg (by omega), Nat.add_sub_cancel_left, Nat.add_sub_cancel_left, List.drop_left] at h3
    have e : (some (⟨g, 0, none⟩ : Addr)).map (·.add pre.length) = some ⟨g, pre.length, none⟩ := by cases pre <;> simp [Addr.add]
    rw [e] at h3
    exact h3
theorem OwnO.len {w : World} {base : Nat} {A : Option Addr} {m c : Nat} {l : List UInt8} (h : OwnO w base (.slice A m c) l) : m = l.length := h.rd.1
theorem OwnO.cut {w : World} {base : Nat} {A : Option Addr} {m c : Nat} {l : List UInt8} (h : OwnO w base (.slice A m c) l) {k : Nat} (hk : k ≤ m) : OwnO w base (.slice (if c = k then A else A.map (·.add k)) (m - k) (c - k)) (l.drop k) := by
  have hr := h.rd.cut hk
  rcases h with ⟨A', h, h2⟩ | ⟨g, c', pre, h, hc, h2⟩
  · cases h
    obtain rfl : k = 0 := by omega
    rw [if_pos rfl] at hr ⊢
    exact .inl ⟨A, rfl, hr⟩
  · injection h with e1 e2 e3
    subst e1 e2 e3
    by_cases hck : c = k
    · rw [if_pos hck] at hr ⊢
      have hle := h2.rd.2.1
      have e1 : l.length - k = 0 := by omega
      have e2 : c - k = 0 := by omega
      rw [e1, e2] at hr ⊢
      exact .inl ⟨_, rfl, hr⟩
    · rw [if_neg hck]
      have hle := h2.rd.2.1
      refine .inr ⟨g, c - k, pre ++ l.take k, ?_, by omega, ?_⟩
      · rw [List.length_drop, List.length_append, List.length_take, Nat.min_eq_left hk]
        simp only [Option.map_some, Addr.add_mid]
      · have e : pre ++ l.take k ++ l.drop k = pre ++ l := by rw [List.append_assoc, List.take_append_drop]
        rw [e]
        have e1 : (pre ++ l.take k).length + (l.drop k).length = pre.length + l.length := by simp; omega
        have e2 : (pre ++ l.take k).length + (c - k) = pre.length + c := by simp; omega
        rw [e1, e2]
        exact h2
theorem OwnO.turn {w w' : World} {S : List Nat} {base : Nat} {A : Option Addr} {m c : Nat} {l : List UInt8} (h : OwnO w base (.slice A m c) l) (ht : Turn S w w') (hn : ∀ ad, A = some ad → ad.block ∉ S) : OwnO w' base (.slice A m c) l := by
  rcases h with ⟨A', h, h2⟩ | ⟨g, c', pre, h, hc, h2⟩
  · cases h
    exact .inl ⟨A, rfl, h2.turn ht hn⟩
  · injection h with e1 e2 e3
    subst e1 e2 e3
    exact .inr ⟨g, _, pre, rfl, hc, h2.turn ht (fun g' hg' => by simp [Value.ownBlock] at hg'; subst hg'; exact hn _ rfl)⟩
theorem OwnO.below {w w' : World} {base : Nat} {A : Option Addr} {m c : Nat} {l : List UInt8} (h : OwnO w base (.slice A m c) l) (hb : Below w.heap.size w w') : OwnO w' base (.slice A m c) l := h.turn (Turn.of_below [] hb) (fun _ _ => by simp)
theorem OwnO.nil (w : World) (base : Nat) : OwnO w base (.slice none 0 0) [] := .inl ⟨none, rfl, Rd.nil w⟩
theorem src_rd {w : World} {A : Option Addr} {m c : Nat} {l : List UInt8} (h : Rd w A m c l) : Src Try.prog 1 22 (.slice A m c) m (l.map B) w := by
  obtain ⟨h1, h2, h3, ⟨rfl, hc⟩ | ⟨b, off, rfl, h4⟩⟩ := h
  · obtain rfl : m = 0 := by omega
    obtain rfl : l = [] := List.length_eq_zero_iff.1 h1.symm
    exact Src.ofNil w Try.underlying22 c
  · exact Src.ofSlice w Try.underlying22 ⟨b, off, none⟩ m c _ (by simp [h1]) h4.adds (map_one _)
/-- Where there is no room: a new row. -/
theorem run_append_grown (w : World) (ty : TypeId) (A : Option Addr) (n c : Nat) (l : List UInt8) (h : Rd w A n c l) (A2 : Option Addr) (m c2 : Nat) (l2 : List UInt8) (h2 : Rd w A2 m c2 l2) (hg : c < n + m) (hlen : l.length + l2.length ≤ 140737488351232) :
    ∃ C w', (Builtin.append_ #[22, 22] ty #[.slice A n c, .slice A2 m c2]).run Try.prog w = .ok (.slice (some ⟨w.heap.size, 0, none⟩) (n + m) C) w' ∧ 0 < C ∧ Own w' w.heap.size (.slice (some ⟨w.heap.size, 0, none⟩) (n + m) C) (l ++ l2) ∧ Below w.heap.size w w' := by
  obtain ⟨i0, hi, hz0, hz1, hz2⟩ := info_parts Try.infoU8
  have hn := h.1
  have hm := h2.1
  have hold : (Builtin.firstCells i0.size n (.slice A n c)).run Try.prog w.drew = .ok (l.map B).toArray w.drew := by
    rw [hz1]
    have := (src_rd (h.below ((Below.refl _ w).drew))).cells
    exact this
  have hs : Src Try.prog i0.size 22 (.slice A2 m c2) m (l2.map B) w := by rw [hz1]; exact src_rd h2
  have hr := run_append_grow_src (P := Try.prog) w 22 22 ty 5 i0 (.int .u8 0) Try.underlying22 hi hz0 A n c (l.map B) hold _ m (l2.map B) hs hg (by omega) (growslice_fits (by omega) (by rw [hz2]; omega))
  have hge := grownCap_ge w (n + m) c 5
  have hcm : grownCap w (n + m) c 5 ≤ maxLen := grownCap_le_maxLen w (n + m) c 5 (by unfold maxLen; omega)
  refine ⟨_, _, hr, by omega, ?_, (((Below.refl w.heap.size w).drew).alloc (Nat.le_refl _) _)⟩
  have hll : (l ++ l2).length = n + m := by rw [List.length_append, ← hn, ← hm]
  unfold Own
  rw [hll]
  refine ⟨by simp [hll, hn, hm], .inr ⟨w.heap.size, _, _, rfl, Nat.le_refl _, heap_alloc_new w.drew _, hge, hcm, ?_, ?_⟩⟩
  · simp only [Array.size_append, List.size_toArray, size_zeroCells, List.length_append, List.length_map, ← hn, ← hm]
    simp [Value.cells]
    omega
  · simp only [Array.toList_append, List.toList_toArray, Nat.mul_one, List.map_append]
    have e : n + m = (l.map B ++ l2.map B).length := by simp [hn, hm]
    rw [e, List.take_left]
theorem setCells_row (w : World) (g : Nat) (cur : Array Value) (e : TypeId) (hh : w.heap[g]? = some (.cells cur e (0, 0))) (o : Nat) (vs : List Value) (hfit : o + vs.length ≤ cur.size) (h1 : ∀ u ∈ vs, u.oneCell' = true) :
    w.setCells g o vs = w.setRow g (cur.toList.take o ++ vs ++ cur.toList.drop (o + vs.length)).toArray := by
  have hb : Blk w g e cur := hh
  have r1 := run_storeCells_at Try.prog g o e vs 0 cur w hh (by simpa using hfit) h1
  have r2 := run_storeCells_cells (P := Try.prog) g o vs 0 w (fun j hj => by rw [hb.cell]; simp; omega) (fun j _ => hb.frozen _) h1
  have e := r2.symm.trans r1
  injection e with e1 e2
theorem World.setCells_nil (w : World) (b o : Nat) : w.setCells b o [] = w := rfl
/-- What an append to a row from a spot on has left: the new row; of the old row's block what lies ahead of its end. -/
structure GrewO (base : Nat) (w w' : World) (A0 : Option Addr) (m0 c0 : Nat) (A : Option Addr) (n c : Nat) (l : List UInt8) : Prop where
  len : n = l.length
  own : OwnO w' base (.slice A n c) l
  turn : Turn (A0.map Addr.block).toList w w'
  keep : ∀ g o, A0 = some ⟨g, o, none⟩ → ∀ i u, i < o + m0 ∨ c0 = 0 → w.cell? ⟨g, i, none⟩ = some u → w'.cell? ⟨g, i, none⟩ = some u
  at_ : (A = A0 ∧ c = c0) ∨ A.map Addr.block = some w.heap.size
theorem cell_some_lt {w : World} {g i : Nat} {u : Value} (h : w.cell? ⟨g, i, none⟩ = some u) : g < w.heap.size := by
  rcases Nat.lt_or_ge g w.heap.size with h1 | h1
  · exact h1
  · simp [World.cell?, Array.getElem?_eq_none h1] at h
theorem run_app_O (w : World) (base : Nat) (ty : TypeId) (A0 : Option Addr) (m0 c0 : Nat) (l : List UInt8) (hown : OwnO w base (.slice A0 m0 c0) l) (A : Option Addr) (m c : Nat) (l2 : List UInt8) (hrd : Rd w A m c l2) (hlen : l.length + l2.length ≤ 140737488351232) (hbase : base ≤ w.heap.size) :
    ∃ A' n' c' w', (Builtin.append_ #[22, 22] ty #[.slice A0 m0 c0, .slice A m c]).run Try.prog w = .ok (.slice A' n' c') w' ∧ GrewO base w w' A0 m0 c0 A' n' c' (l ++ l2) := by
  have hrd0 := hown.rd
  by_cases hg : c0 < m0 + m
  · obtain ⟨C, w', hr, hC, hO, hB⟩ := run_append_grown w ty A0 m0 c0 l hrd0 A m c l2 hrd hg hlen
    refine ⟨_, _, _, _, hr, ?_, ?_, Turn.of_below _ hB, fun g o _ i u _ hu => ?_, .inr rfl⟩
    · rw [List.length_append, ← hrd0.1, ← hrd.1]
    · exact OwnO.of (hO.mono hbase)
    · rw [hB.cell (p := ⟨g, i, none⟩) (cell_some_lt hu)]; exact hu
  · obtain ⟨i0, hi, hz0, hz1, hz2⟩ := info_parts Try.infoU8
    rcases hown with ⟨A', h, h2⟩ | ⟨g, c', pre, h, hc, h2⟩
    · cases h
      obtain rfl : m = 0 := by omega
      obtain rfl : l = [] := List.length_eq_zero_iff.1 h2.1.symm
      obtain rfl : l2 = [] := List.length_eq_zero_iff.1 hrd.1.symm
      have hr : (Builtin.append_ #[22, 22] ty #[.slice A0 0 0, .slice A 0 c]).run Try.prog w = .ok (.slice A0 0 0) w := by
        rcases h2.2.2.2 with ⟨rfl, _⟩ | ⟨b, off, rfl, _⟩
        · rcases hrd.2.2.2 with ⟨rfl, _⟩ | ⟨b2, off2, rfl, _⟩ <;> simp [Builtin.append_, run_underlying Try.underlying22, sizeOf, typeInfo, hi, Builtin.lenOf, Builtin.firstCells, loadCells, loadCellsFrom]
        · have := run_append_room_src (P := Try.prog) w 22 22 ty 5 i0 Try.underlying22 hi b off 0 0 (.slice A 0 c) 0 [] (by rw [hz1]; exact src_rd hrd) (by omega) (fun j hj => by simp at hj) (fun j hj => by simp at hj)
          exact this
      exact ⟨_, _, _, _, hr, rfl, .inl ⟨_, rfl, h2⟩, Turn.refl _ _, fun _ _ _ _ _ _ h => h, .inl ⟨rfl, rfl⟩⟩
    · injection h with e1 e2 e3
      subst e1 e2 e3
      have hm := hrd.1
      obtain ⟨e1, e2, e3, e4, cur, hh, hcl, hct⟩ := h2.blk
      have hcell : ∀ j, j < c0 + pre.length → (w.cell? ⟨g, j, none⟩).isSome = true := fun j hj => by
        have hb : Blk w g 5 cur.toArray := hh
        rw [hb.cell]
        simp [hcl]; omega
      have hr0 := run_append_room_src (P := Try.prog) w 22 22 ty 5 i0 Try.underlying22 hi g pre.length l.length c0 (.slice A m c) m (l2.map B) (by rw [hz1]; exact src_rd hrd) (by omega)
        (fun j hj => hcell _ (by rw [hz1]; simp at hj; omega)) (fun j hj => Blk.frozen (show Blk w g 5 cur.toArray from hh) _)
      have hr1 := run_append_room_src (P := Try.prog) w 22 22 ty 5 i0 Try.underlying22 hi g 0 (pre.length + l.length) (pre.length + c0) (.slice A m c) m (l2.map B) (by rw [hz1]; exact src_rd hrd) (by omega)
        (fun j hj => hcell _ (by rw [hz1]; simp at hj; omega)) (fun j hj => Blk.frozen (show Blk w g 5 cur.toArray from hh) _)
      rw [hz1] at hr0 hr1
      rw [Nat.mul_one] at hr0 hr1
      rw [Nat.zero_add] at hr1
      obtain ⟨cur2, hh2, hcl2, hct2, hgr⟩ : ∃ cur2 : List Value, (w.setCells g (pre.length + l.length) (l2.map B)).heap[g]? = some (.cells cur2.toArray 5 (0, 0)) ∧ cur2.length = pre.length + c0 ∧ cur2.take (pre.length + l.length + m) = (pre ++ l).map B ++ l2.map B ∧ w.grownBy (w.setCells g (pre.length + l.length) (l2.map B)) (some g) := by
        rw [setCells_row w g cur.toArray 5 hh (pre.length + l.length) (l2.map B) (by simp [hcl, ← hm]; omega) (map_one _)]
        refine ⟨_, setRow_heap w g cur.toArray _ 5 _ hh, ?_, ?_, ⟨rfl, rfl, rfl, by simp, fun k _ hk => setRow_other w g k _ (fun e => hk (by rw [e]))⟩⟩
        · simp [hcl, ← hm]; omega
        · rw [List.take_append_of_le_length (by simp [hcl]; omega)]
          rw [List.take_of_length_le (by simp [hcl]; omega), ← hct]
      have ho1 : Own (w.setCells g (pre.length + l.length) (l2.map B)) base (.slice (some ⟨g, 0, none⟩) (pre.length + l.length + m) (pre.length + c0)) (pre ++ l ++ l2) := by
        have := Own.of_cells (base := base) (c := pre.length + c0) (l := pre ++ l ++ l2) hh2 e4 hcl2 e3 (by simp; omega) (by rw [show (pre ++ l ++ l2).length = pre.length + l.length + m by simp [hm, Nat.add_assoc], hct2]; simp)
        rwa [show (pre ++ l ++ l2).length = pre.length + l.length + m by simp [hm, Nat.add_assoc]] at this
      have ho2 : Own (w.setCells g (pre.length + l.length) (l2.map B)) base (.slice (some ⟨g, 0, none⟩) (pre.length + l.length) (pre.length + c0)) (pre ++ l) := by
        have := Own.of_cells (base := base) (c := pre.length + c0) (l := pre ++ l) hh2 e4 hcl2 e3 (by simp; omega) (by
          have h5 := congrArg (List.take (pre ++ l).length) hct2
          rw [List.take_take, Nat.min_eq_left (by simp)] at h5
          rw [h5, List.take_append_of_le_length (by simp), List.take_of_length_le (by simp)])
        rwa [show (pre ++ l).length = pre.length + l.length by simp] at this
      have hll : (l ++ l2).length = l.length + m := by rw [List.length_append, ← hm]
      refine ⟨_, _, _, _, hr0, hll.symm, .inr ⟨g, c0, pre, by rw [hll], hc, ?_⟩, Turn.of_grown (v := .slice (some ⟨g, 0, none⟩) 0 0) hgr, fun g' o ho i u hi' hu => ?_, .inl ⟨rfl, rfl⟩⟩
      · rw [hll, ← Nat.add_assoc, ← List.append_assoc]; exact ho1
      · injection ho with ho; injection ho with ho4 ho5; subst ho4; rw [← ho5] at hi'
        have hi'' : i < pre.length + l.length := by omega
        obtain ⟨x, hx⟩ : ∃ x, (pre ++ l)[i]? = some x := ⟨_, List.getElem?_eq_getElem (by simp; omega)⟩
        have q1 := h2.at_.2 i x hx
        have q2 := ho2.at_.2 i x hx
        rw [Nat.zero_add] at q1 q2
        rw [q2, ← q1, hu]
/-- At the operation. -/
theorem wp_app_O {ops : Array Oper} {rest : List Oper} {o : Oper} {a : Act} {w : World} {Q : Exit → Act → World → Prop} (s x : Operand) (base : Nat) (A0 : Option Addr) (m0 c0 : Nat) (l : List UInt8) (hown : OwnO w base (.slice A0 m0 c0) l) (hbase : base ≤ w.heap.size)
    (A : Option Addr) (m c : Nat) (l2 : List UInt8) (hrd : Rd w A m c l2) (hlen : l.length + l2.length ≤ 140737488351232) (hgd : o.guard = none)
    (ho : o.op = .call { callee := .builtin .append, args := #[s, x], argTypes := #[22, 22] }) (hs : a.eval s = .slice A0 m0 c0) (hx : a.eval x = .slice A m c)
    (h : ∀ (A' : Option Addr) (n' c' : Nat) (w' : World), GrewO base w w' A0 m0 c0 A' n' c' (l ++ l2) → wpList Try.prog ops Q rest (a.put o.dst (.slice A' n' c')) w') : wpList Try.prog ops Q (o :: rest) a w := by
  refine wpList_plain hgd fun K hK => ?_
  obtain ⟨A', n', c', w', hrun, hG⟩ := run_app_O w base o.type A0 m0 c0 l hown A m c l2 hrd hlen hbase
  unfold Oper.wp
  simp only [execOp, ho, resolve, invoke, builtin, Sem.run_bind, Sem.run_pure, Result.andThen_ok, List.map_toArray, List.map_cons, List.map_nil, hs, hx, hrun]
  exact hK _ _ (h _ _ _ _ hG)
end Go.Proofs.Ytiocmebcbhbcmaa
namespace Go.Proofs.Ytiocmebcbhbcmaa
open Go.RowKit

section
variable (t : TypeId)
theorem and_B (x y : UInt8) : binOp .and t (B x) (B y) = pure (B (x &&& y)) := by
  show (pure (.int .u8 (IntKind.u8.wrap (BitVec.toNat (BitVec.ofInt 8 (x.toNat : Int) &&& BitVec.ofInt 8 (y.toNat : Int))))) : Sem Value) = _
  rw [wrap_u8, ← B_eq]
  simp only [BitVec.ofInt_natCast, UInt8.toNat_and, BitVec.toNat_and, BitVec.toNat_ofNat]
  have := x.toNat_lt; have := y.toNat_lt
  rw [Nat.mod_eq_of_lt (by omega), Nat.mod_eq_of_lt (by omega)]
  have : x.toNat &&& y.toNat < 2 ^ 8 := Nat.and_lt_two_pow _ (by omega)
  omega
theorem or_B (x y : UInt8) : binOp .or t (B x) (B y) = pure (B (x ||| y)) := by
  show (pure (.int .u8 (IntKind.u8.wrap (BitVec.toNat (BitVec.ofInt 8 (x.toNat : Int) ||| BitVec.ofInt 8 (y.toNat : Int))))) : Sem Value) = _
  rw [wrap_u8, ← B_eq]
  simp only [BitVec.ofInt_natCast, UInt8.toNat_or, BitVec.toNat_or, BitVec.toNat_ofNat]
  have := x.toNat_lt; have := y.toNat_lt
  rw [Nat.mod_eq_of_lt (by omega), Nat.mod_eq_of_lt (by omega)]
  have : x.toNat ||| y.toNat < 2 ^ 8 := Nat.or_lt_two_pow (by omega) (by omega)
  omega
theorem B_lit (n : Nat) (h : n < 256) : (.int .u8 (n : Int) : Value) = B (UInt8.ofNat n) := by
  rw [B_eq]
  rw [UInt8.toNat_ofNat', Nat.mod_eq_of_lt (by omega)]
theorem andI_B (x : UInt8) (n : Int) (h0 : 0 ≤ n) (h : n < 256) : binOp .and t (B x) (.int .u8 n) = pure (B (x &&& UInt8.ofNat n.toNat)) := by
  obtain ⟨m, rfl⟩ := Int.eq_ofNat_of_zero_le h0
  rw [B_lit m (by omega), and_B]
  rfl
def isN (x : UInt8) (n : Int) : Bool := (x.toNat : Int) == n
def gtN (x : UInt8) (n : Int) : Bool := decide (n < (x.toNat : Int))
theorem eqlI_B (x : UInt8) (n : Int) : binOp .eql t (B x) (.int .u8 n) = pure (.bool (isN x n)) := binOp_eql t .u8 _ _
theorem neqI_B (x : UInt8) (n : Int) : binOp .neq t (B x) (.int .u8 n) = pure (.bool (!isN x n)) := binOp_neq t .u8 _ _
theorem gtrI_B (x : UInt8) (n : Int) : binOp .gtr t (B x) (.int .u8 n) = pure (.bool (gtN x n)) := by
  rw [show B x = .int .u8 (x.toNat : Int) from rfl]
  exact binOp_gtr t .u8 _ _
theorem mulI_B (x : UInt8) (n : Nat) (h : n < 256) : binOp .mul t (B x) (.int .u8 (n : Int)) = pure (B (x * UInt8.ofNat n)) := by
  show (pure (.int .u8 (IntKind.u8.wrap ((x.toNat : Int) * n))) : Sem Value) = _
  rw [wrap_u8, ← B_eq]
  rw [UInt8.toNat_mul, UInt8.toNat_ofNat', Nat.mod_eq_of_lt (a := n) (by omega)]
  simp
theorem mulB_lit (x : UInt8) (n : Int) (h0 : 0 ≤ n) (h : n < 256) : binOp .mul t (B x) (.int .u8 n) = pure (B (x * UInt8.ofNat n.toNat)) := by
  obtain ⟨m, rfl⟩ := Int.eq_ofNat_of_zero_le h0
  exact mulI_B t x m (by omega)
theorem shr_B (x : UInt8) (k : IntKind) (n : Nat) (h : n < 8) : binOp .shr t (B x) (.int k n) = pure (B (x >>> UInt8.ofNat n)) := by
  show Op.shift .shr .u8 (x.toNat : Int) k (n : Int) = _
  unfold Op.shift
  rw [if_neg (by omega)]
  simp only [Int.toNat_natCast, IntKind.bits, Nat.min_eq_left (Nat.le_of_lt h)]
  rw [← B_eq]
  rw [UInt8.toNat_shiftRight, UInt8.toNat_ofNat', Nat.mod_eq_of_lt (a := n) (by omega), Nat.mod_eq_of_lt h, Nat.shiftRight_eq_div_pow]
  rw [Int.fdiv_eq_ediv_of_nonneg _ (by exact_mod_cast Nat.zero_le _)]
  simp
theorem shl_B (x : UInt8) (k : IntKind) (n : Nat) (h : n < 8) : binOp .shl t (B x) (.int k n) = pure (B (x <<< UInt8.ofNat n)) := by
  show Op.shift .shl .u8 (x.toNat : Int) k (n : Int) = _
  unfold Op.shift
  rw [if_neg (by omega)]
  simp only [Int.toNat_natCast, IntKind.bits, Nat.min_eq_left (Nat.le_of_lt h)]
  rw [wrap_u8, ← B_eq]
  rw [UInt8.toNat_shiftLeft, UInt8.toNat_ofNat', Nat.mod_eq_of_lt (a := n) (by omega), Nat.mod_eq_of_lt h, Nat.shiftLeft_eq]
  simp
theorem shrI_B (x : UInt8) (k : IntKind) (n : Int) (h0 : 0 ≤ n) (h : n < 8) : binOp .shr t (B x) (.int k n) = pure (B (x >>> UInt8.ofNat n.toNat)) := by
  obtain ⟨m, rfl⟩ := Int.eq_ofNat_of_zero_le h0
  exact shr_B t x k m (by omega)
theorem shlI_B (x : UInt8) (k : IntKind) (n : Int) (h0 : 0 ≤ n) (h : n < 8) : binOp .shl t (B x) (.int k n) = pure (B (x <<< UInt8.ofNat n.toNat)) := by
  obtain ⟨m, rfl⟩ := Int.eq_ofNat_of_zero_le h0
  exact shl_B t x k m (by omega)
end
theorem all8 {P : UInt8 → Prop} (h : ∀ i : Fin 256, P (UInt8.ofNat i.val)) (a : UInt8) : P a := by
  have := h ⟨a.toNat, a.toNat_lt⟩
  simpa using this
theorem quo2_B (t : TypeId) (x : UInt8) : binOp .quo t (B x) (.int .u8 2) = pure (B (x >>> 1)) := by
  rw [show B x = .int .u8 (x.toNat : Int) from rfl, binOp_quo]
  have h := x.toNat_lt
  have e : ((x >>> 1).toNat : Int) = x.toNat / 2 := by rw [UInt8.toNat_shiftRight]; simp [Nat.shiftRight_eq_div_pow]
  show (pure (.int .u8 (IntKind.u8.wrap (Int.tdiv (x.toNat : Int) 2))) : Sem Value) = _
  rw [wrap_u8, ← B_eq (x := x >>> 1)]
  rw [e, Int.tdiv_eq_ediv_of_nonneg (by omega)]
  omega
theorem rem2_B (t : TypeId) (x : UInt8) : binOp .rem t (B x) (.int .u8 2) = pure (B (x &&& 1)) := by
  rw [show B x = .int .u8 (x.toNat : Int) from rfl, binOp_rem]
  have h := x.toNat_lt
  have e : ((x &&& 1).toNat : Int) = x.toNat % 2 := by simp
  show (pure (.int .u8 (Int.tmod (x.toNat : Int) 2)) : Sem Value) = _
  rw [← B_eq (x := x &&& 1)]
  rw [e, Int.tmod_eq_emod_of_nonneg (by omega)]
theorem mul2_B (t : TypeId) (x : UInt8) : binOp .mul t (B x) (.int .u8 2) = pure (B (x <<< 1)) := by
  rw [mulB_lit t x 2 (by omega) (by omega)]
  have : x * UInt8.ofNat (Int.toNat 2) = x <<< 1 := by
    revert x; refine all8 ?_; decide +kernel
  rw [this]
def geN (x : UInt8) (n : Int) : Bool := decide ((x.toNat : Int) ≥ n)
theorem geqI_B (t : TypeId) (x : UInt8) (n : Int) : binOp .geq t (B x) (.int .u8 n) = pure (.bool (geN x n)) := by
  rw [show B x = .int .u8 (x.toNat : Int) from rfl]
  exact binOp_geq t .u8 _ _
theorem eqGuard_eql_B (t : TypeId) (x y : Operand) (u : UInt8) (n : Int) : eqGuard .eql t x y (B u) (.int .u8 n) = pure () := by
  rw [show B u = .int .u8 (u.toNat : Int) from rfl]; simp [go_sem]
theorem eqGuard_neq_B (t : TypeId) (x y : Operand) (u : UInt8) (n : Int) : eqGuard .neq t x y (B u) (.int .u8 n) = pure () := by
  rw [show B u = .int .u8 (u.toNat : Int) from rfl]; simp [go_sem]
theorem indexAt_B (t : TypeId) (v : Value) (x : UInt8) : Instr.indexAt t v (B x) = Instr.indexAt t v (.int .u8 (x.toNat : Int)) := rfl
attribute [go_sem] indexAt_B quo2_B rem2_B mul2_B geqI_B eqGuard_eql_B eqGuard_neq_B and_B or_B andI_B mulB_lit shrI_B shlI_B eqlI_B neqI_B gtrI_B
end Go.Proofs.Ytiocmebcbhbcmaa
