/-
  append on bytes, as the walk meets it; contracts of zbyte.Append32, Append64, Put64, bytes.Clone.
  append on bytes, told by one closed word: 'Grew'. And rows of bytes that are written in a loop.
-/
import Derived.Test.YtddemlajfbagdaaDoorWords
import Derived.Laws.AppendOwnNone
import Derived.Laws.CopyOwn
import Derived.Deep.RegionHeld3
import Derived.Deep.DeepMust
import Derived.Deep.DrawnRows
namespace Go.Proofs.YtddemlajfbagdaaDoor
open Go.RowKit

theorem Tryd.infoU8 : (Tryd.prog.info? 5).map (fun i => (i.zero, i.size, i.bytes)) = some (some (.int .u8 0), 1, 1) := by kernel_rfl

/-- append of bytes onto a row of bytes of our own (or nil): the operation. -/
theorem op_app {o : Oper} {a : Act} {w : World} {K : Act → World → Prop} {Q : Exit → Act → World → Prop} (s x : Operand)
    (ho : o.op = .call { callee := .builtin .append, args := #[s, x], argTypes := #[22, 22] })
    (base : Nat) (v : Value) (l : List UInt8) (hs : a.eval s = v) (hown : Own w base v l)
    (A : Option Addr) (m c : Nat) (l2 : List UInt8) (hx : a.eval x = .slice A m c) (hrd : Rd w A m c l2) (hlen : l.length + l2.length ≤ 140737488355328) (hbase : base ≤ w.heap.size)
    (h : ∀ v' w', Own w' base v' (l ++ l2) → w.grownBy w' v.ownBlock → (v' = .slice none 0 0 ↔ v = .slice none 0 0 ∧ l2 = []) → (v'.ownBlock = v.ownBlock ∨ v'.ownBlock = some w.heap.size) → K (a.put o.dst v') w') :
    Oper.wp Tryd.prog o a w K Q := by
  obtain ⟨i0, hi, hz0, hz1, hz2⟩ := info_parts Tryd.infoU8
  obtain ⟨h1, h2, h3, ⟨rfl, hc⟩ | ⟨b, off, rfl, h4⟩⟩ := hrd
  · obtain rfl : m = 0 := by omega
    obtain rfl : l2 = [] := List.length_eq_zero_iff.1 h1.symm
    subst hc
    have hrun := run_append_owned_none (P := Tryd.prog) (w := w) base 22 o.type 5 i0 1 Tryd.underlying22 hi v l.length (l.map B) hown
    unfold Oper.wp
    simp only [execOp, ho, resolve, invoke, builtin, Sem.run_bind, Sem.run_pure, Result.andThen_ok, List.map_toArray, List.map_cons, List.map_nil, hs, hx, hrun]
    exact h v w (by rw [List.append_nil]; exact hown) ⟨rfl, rfl, rfl, Nat.le_refl _, fun _ _ _ => rfl⟩ (by simp) (.inl rfl)
  · obtain ⟨v', w', hr, ho', hg, hn, hb⟩ := run_append_own_at (P := Tryd.prog) w base 22 o.type 5 i0 (.int .u8 0) 1 1 Tryd.underlying22 hi hz0 hz1 hz2 rfl (by decide) v l.length (l.map B) hown ⟨b, off, none⟩ m c (l2.map B) (by simp [h1])
      h4.adds (map_one _) (by unfold maxLen; omega) (by omega) hbase
    unfold Oper.wp
    simp only [execOp, ho, resolve, invoke, builtin, Sem.run_bind, Sem.run_pure, Result.andThen_ok, List.map_toArray, List.map_cons, List.map_nil, hs, hx, hr]
    refine h v' w' ?_ hg ?_ hb
    · unfold Own
      rw [List.length_append, ← h1, List.map_append]
      exact ho'
    · rw [hn, ← List.length_eq_zero_iff, ← h1]
/-- The same in a plain region. -/
theorem wp_app {ops : Array Oper} {rest : List Oper} {o : Oper} {a : Act} {w : World} {Q : Exit → Act → World → Prop} (hgd : o.guard = none) (s x : Operand)
    (ho : o.op = .call { callee := .builtin .append, args := #[s, x], argTypes := #[22, 22] })
    (base : Nat) (v : Value) (l : List UInt8) (hs : a.eval s = v) (hown : Own w base v l)
    (A : Option Addr) (m c : Nat) (l2 : List UInt8) (hx : a.eval x = .slice A m c) (hrd : Rd w A m c l2) (hlen : l.length + l2.length ≤ 140737488355328) (hbase : base ≤ w.heap.size)
    (h : ∀ v' w', Own w' base v' (l ++ l2) → w.grownBy w' v.ownBlock → (v' = .slice none 0 0 ↔ v = .slice none 0 0 ∧ l2 = []) → (v'.ownBlock = v.ownBlock ∨ v'.ownBlock = some w.heap.size) → wpList Tryd.prog ops Q rest (a.put o.dst v') w') :
    wpList Tryd.prog ops Q (o :: rest) a w :=
  wpList_plain hgd fun _ hK => op_app s x ho base v l hs hown A m c l2 hx hrd hlen hbase fun v' w' h1 h2 h3 h4 => hK _ _ (h v' w' h1 h2 h3 h4)
/-- The same as a step of a region that draws. -/
theorem step_app {ops : Array Oper} {o : Oper} {a : Act} {w : World} {K : Act → World → Prop} {Q : Exit → Act → World → Prop} {E : Prop} (hgd : o.guard = none) (s x : Operand)
    (ho : o.op = .call { callee := .builtin .append, args := #[s, x], argTypes := #[22, 22] })
    (base : Nat) (v : Value) (l : List UInt8) (hs : a.eval s = v) (hown : Own w base v l)
    (A : Option Addr) (m c : Nat) (l2 : List UInt8) (hx : a.eval x = .slice A m c) (hrd : Rd w A m c l2) (hlen : l.length + l2.length ≤ 140737488355328) (hbase : base ≤ w.heap.size)
    (h : ∀ v' w', Own w' base v' (l ++ l2) → w.grownBy w' v.ownBlock → (v' = .slice none 0 0 ↔ v = .slice none 0 0 ∧ l2 = []) → (v'.ownBlock = v.ownBlock ∨ v'.ownBlock = some w.heap.size) → K (a.put o.dst v') w') :
    if Region.wanted o (yielded ops a.tmps) = true then Oper.wp Tryd.prog o a w K Q else E := by
  rw [if_pos (by simp [Region.wanted, hgd])]
  exact op_app s x ho base v l hs hown A m c l2 hx hrd hlen hbase h

theorem Own.blk {w : World} {base g n c : Nat} {l : List UInt8} (h : Own w base (.slice (some ⟨g, 0, none⟩) n c) l) : n = l.length ∧ n ≤ c ∧ c ≤ maxLen ∧ base ≤ g ∧ ∃ cur : List Value, w.heap[g]? = some (.cells cur.toArray 5 (0, 0)) ∧ cur.length = c ∧ cur.take n = l.map B := by
  obtain ⟨h1, h2⟩ := h
  rcases h2 with ⟨h2, _⟩ | ⟨g', cap, cur, he, hg, hh, hnc, hm, hcur, hx⟩
  · cases h2
  · cases he
    exact ⟨rfl, hnc, hm, hg, cur.toList, hh, by simpa using hcur, by simpa using hx⟩
theorem Own.of_cells {w : World} {base g c : Nat} {l : List UInt8} {cur : List Value} (hh : w.heap[g]? = some (.cells cur.toArray 5 (0, 0))) (hg : base ≤ g) (hc : cur.length = c) (hm : c ≤ maxLen) (hl : l.length ≤ c) (hx : cur.take l.length = l.map B) : Own w base (.slice (some ⟨g, 0, none⟩) l.length c) l :=
  ⟨by simp, .inr ⟨g, c, cur.toArray, rfl, hg, hh, hl, hm, by simpa using hc, by simpa using hx⟩⟩

/-- copy into a row of bytes of our own, at place off: the operation. -/
theorem op_copy {o : Oper} {a : Act} {w : World} {K : Act → World → Prop} {Q : Exit → Act → World → Prop} (d s : Operand)
    (ho : o.op = .call { callee := .builtin .copy, args := #[d, s], argTypes := #[22, 22] })
    (base g n0 c0 off dl dc : Nat) (l : List UInt8) (hown : Own w base (.slice (some ⟨g, 0, none⟩) n0 c0) l) (hd : a.eval d = .slice (some ⟨g, off, none⟩) dl dc) (hoff : off + dl ≤ l.length)
    (A : Option Addr) (m c : Nat) (l2 : List UInt8) (hs : a.eval s = .slice A m c) (hrd : Rd w A m c l2)
    (h : ∀ w', Own w' base (.slice (some ⟨g, 0, none⟩) n0 c0) (splice l off (l2.take dl)) → w.grownBy w' (some g) → K (a.put o.dst (goInt ((min m dl : Nat) : Int))) w') :
    Oper.wp Tryd.prog o a w K Q := by
  obtain ⟨i0, hi, hz0, hz1, hz2⟩ := info_parts Tryd.infoU8
  have hsz : (Tryd.prog.info? 5).map (·.size) = some 1 := by rw [hi]; simp [hz1]
  obtain ⟨e0, e1, e2, e3, cur, hh, hcl, htk⟩ := hown.blk
  obtain ⟨h1, h2, h3, h4⟩ := hrd
  have hlen : (l2.take dl).length = Nat.min m dl := by rw [List.length_take, ← h1]; exact Nat.min_comm _ _
  have hcap : l.length ≤ cur.length := by omega
  by_cases h0 : Nat.min m dl = 0
  · have hrun := run_copy_none (P := Tryd.prog) w 22 22 o.type 5 (some ⟨g, off, none⟩) A dl dc m c Tryd.underlying22 hsz h0
    unfold Oper.wp
    simp only [execOp, ho, resolve, invoke, builtin, Sem.run_bind, Sem.run_pure, Result.andThen_ok, List.map_toArray, List.map_cons, List.map_nil, hs, hd, hrun]
    have hnil : l2.take dl = [] := List.length_eq_zero_iff.1 (by rw [hlen, h0])
    have hz : min m dl = 0 := h0
    rw [hz] at h
    exact h w (by rw [hnil]; simpa [splice] using hown) ⟨rfl, rfl, rfl, Nat.le_refl _, fun _ _ _ => rfl⟩
  · rcases h4 with ⟨rfl, hc⟩ | ⟨b, so, rfl, h4⟩
    · exact absurd (show Nat.min m dl = 0 by have : m = 0 := by omega
                                             subst this; exact Nat.zero_min _) h0
    · have hrun := run_copy_row (P := Tryd.prog) w 22 22 o.type 5 g off dl dc ⟨b, so, none⟩ m c cur.toArray 5 ((l2.take dl).map B) Tryd.underlying22 hsz hh (by simpa using hlen)
        (fun j v hv => (h4.take dl).adds j v hv) (by rw [List.length_map, hlen]; have : Nat.min m dl ≤ dl := Nat.min_le_right _ _; simp; omega) (map_one _)
      unfold Oper.wp
      simp only [execOp, ho, resolve, invoke, builtin, Sem.run_bind, Sem.run_pure, Result.andThen_ok, List.map_toArray, List.map_cons, List.map_nil, hs, hd, hrun]
      have hgo : goInt (((l2.take dl).map B).length : Nat) = goInt ((min m dl : Nat) : Int) := by rw [List.length_map, hlen]
      rw [hgo]
      have hk : (l2.take dl).length ≤ dl := by rw [hlen]; exact Nat.min_le_right _ _
      refine h _ ?_ ?_
      rotate_left
      · exact ⟨rfl, rfl, rfl, by simp [World.setRow], fun k hk' hne => setRow_other w g k _ (fun e => hne (by rw [e]))⟩
      generalize l2.take dl = z at *
      have hlk : (splice l off z).length = l.length := length_splice _ _ _ (by omega)
      rw [e0, ← hlk]
      refine Own.of_cells (setRow_heap w g _ _ _ _ hh) e3 ?_ e2 (by omega) ?_
      · simp only [List.length_append, List.length_take, List.length_drop, List.length_map]; omega
      · rw [hlk, ← e0]
        apply List.ext_getElem?
        intro i
        have htk' : ∀ i, i < n0 → cur[i]? = (l[i]?).map B := fun i hi => by
          have := congrArg (fun z => z[i]?) htk
          simpa [List.getElem?_take, hi] using this
        unfold splice
        rw [List.getElem?_take, List.getElem?_map, List.append_assoc]
        by_cases hi : i < n0
        · rw [if_pos hi]
          by_cases ho : i < off
          · rw [List.getElem?_append_left (l₁ := cur.take off) (by simp; omega), List.getElem?_append_left (l₁ := l.take off) (by simp; omega), List.getElem?_take, if_pos ho, List.getElem?_take, if_pos ho, htk' i hi]
          · have q1 : (List.take off cur).length = off := by simp; omega
            have q2 : (List.take off l).length = off := by simp; omega
            rw [List.getElem?_append_right (l₁ := cur.take off) (by omega), List.getElem?_append_right (l₁ := l.take off) (by omega), q1, q2]
            by_cases hz : i - off < z.length
            · rw [List.getElem?_append_left (by simpa using hz), List.getElem?_append_left hz, List.getElem?_map]
            · rw [List.getElem?_append_right (by simpa using hz), List.getElem?_append_right (by omega), List.getElem?_drop, List.getElem?_drop, List.length_map]
              have q3 : off + z.length + (i - off - z.length) = i := by omega
              rw [q3, htk' i hi]
        · rw [if_neg hi, List.getElem?_eq_none (by simp; omega)]
          rfl

/-- What an append leaves: only the row itself has turned. -/
theorem Turn.of_grown {w w' : World} {v : Value} (hg : w.grownBy w' v.ownBlock) : Turn v.ownBlock.toList w w' :=
  ⟨hg.os, hg.tape, hg.output, hg.size, fun k hk hn => hg.block k hk (fun e => hn (by rw [← e]; simp))⟩
theorem Turn.app {w w1 w2 : World} {v v' : Value} (h : Turn v.ownBlock.toList w w1) (hg : w1.grownBy w2 v'.ownBlock) (hv : v'.ownBlock = v.ownBlock ∨ ∃ k, w.heap.size ≤ k ∧ v'.ownBlock = some k) : Turn v.ownBlock.toList w w2 := by
  refine h.grown hg fun k hk => ?_
  rcases hv with hv | ⟨j, hj, hv⟩
  · left; rw [← hv, hk]; simp
  · right; rw [hv] at hk; cases hk; exact hj
theorem Rd.of_blk {w : World} {g : Nat} {fr : Nat × Nat} {l : List UInt8} (h : w.heap[g]? = some (.cells (l.map B).toArray 5 fr)) (hl : l.length ≤ maxLen) : Rd w (some ⟨g, 0, none⟩) l.length l.length l := by
  refine ⟨rfl, Nat.le_refl _, hl, .inr ⟨g, 0, rfl, ?_, fun k x hx => ?_⟩⟩
  · rcases Nat.lt_or_ge g w.heap.size with h' | h'
    · exact h'
    · rw [Array.getElem?_eq_none h'] at h; cases h
  · simp [World.cell?, h, hx]

def bytes32 (x : UInt32) : List UInt8 := [(x >>> 24).toUInt8, (x >>> 16).toUInt8, (x >>> 8).toUInt8, x.toUInt8]
def bytes64 (x : UInt64) : List UInt8 := [(x >>> 56).toUInt8, (x >>> 48).toUInt8, (x >>> 40).toUInt8, (x >>> 32).toUInt8, (x >>> 24).toUInt8, (x >>> 16).toUInt8, (x >>> 8).toUInt8, x.toUInt8]

theorem append32_any (v : Value) (x : UInt32) (l : List UInt8) (w : World) (base : Nat) (h : Own w base v l) (hb : base ≤ w.heap.size) (hl : l.length ≤ 140737488351000) :
    Calls Tryd.prog 70 #[v, U32 x] w fun e w' => ∃ v', e = .returned v' ∧ Own w' base v' (l ++ bytes32 x) ∧ Turn v.ownBlock.toList w w' ∧ v' ≠ .slice none 0 0 := by
  have ho2 : Own (w.alloc (.cells #[B (x >>> 24).toUInt8, B (x >>> 16).toUInt8, B (x >>> 8).toUInt8, B x.toUInt8] 5)) base v l := h.below ((Below.refl _ _).alloc (Nat.le_refl _) _)
  have hr : Rd (w.alloc (.cells #[B (x >>> 24).toUInt8, B (x >>> 16).toUInt8, B (x >>> 8).toUInt8, B x.toUInt8] 5)) (some ⟨w.heap.size, 0, none⟩) 4 4 (bytes32 x) := Rd.of_blk (l := bytes32 x) (heap_alloc_new w _) (by simp [bytes32, maxLen])
  go_enter Tryd.func70, Tryd.ntmps70
  go_wp2_with (at_builtin; refine wp_app rfl _ _ rfl base v l rfl ho2 (some ⟨w.heap.size, 0, none⟩) 4 4 (bytes32 x) rfl hr ?c3 ?c5 ?_)
  case c3 => simp [bytes32]; omega
  case c5 => simp; omega
  intro v' w' ho hg hn hb
  have HB := Lib.hid (And.intro hn hb)
  clear hn hb hr ho2
  go_wp2
  go_ret
  refine ⟨_, rfl, ho, (((Turn.refl _ w).alloc _).app hg (.inl rfl)), ?_⟩
  intro e
  have := (HB.out.1.1 e).2
  simp [bytes32] at this
theorem append64_any (v : Value) (x : UInt64) (l : List UInt8) (w : World) (base : Nat) (h : Own w base v l) (hb : base ≤ w.heap.size) (hl : l.length ≤ 140737488351000) :
    Calls Tryd.prog 71 #[v, U64 x] w fun e w' => ∃ v', e = .returned v' ∧ Own w' base v' (l ++ bytes64 x) ∧ Turn v.ownBlock.toList w w' ∧ v' ≠ .slice none 0 0 := by
  have ho2 : Own (w.alloc (.cells #[B (x >>> 56).toUInt8, B (x >>> 48).toUInt8, B (x >>> 40).toUInt8, B (x >>> 32).toUInt8, B (x >>> 24).toUInt8, B (x >>> 16).toUInt8, B (x >>> 8).toUInt8, B x.toUInt8] 5)) base v l := h.below ((Below.refl _ _).alloc (Nat.le_refl _) _)
  have hr : Rd (w.alloc (.cells #[B (x >>> 56).toUInt8, B (x >>> 48).toUInt8, B (x >>> 40).toUInt8, B (x >>> 32).toUInt8, B (x >>> 24).toUInt8, B (x >>> 16).toUInt8, B (x >>> 8).toUInt8, B x.toUInt8] 5)) (some ⟨w.heap.size, 0, none⟩) 8 8 (bytes64 x) := Rd.of_blk (l := bytes64 x) (heap_alloc_new w _) (by simp [bytes64, maxLen])
  go_enter Tryd.func71, Tryd.ntmps71
  go_wp2_with (at_builtin; refine wp_app rfl _ _ rfl base v l rfl ho2 (some ⟨w.heap.size, 0, none⟩) 8 8 (bytes64 x) rfl hr ?c3 ?c5 ?_)
  case c3 => simp [bytes64]; omega
  case c5 => simp; omega
  intro v' w' ho hg hn hb
  have HB := Lib.hid (And.intro hn hb)
  clear hn hb hr ho2
  go_wp2
  go_ret
  refine ⟨_, rfl, ho, (((Turn.refl _ w).alloc _).app hg (.inl rfl)), ?_⟩
  intro e
  have := (HB.out.1.1 e).2
  simp [bytes64] at this
theorem eqNilBytes (A : Option Addr) (n c : Nat) (w : World) : (binOp .eql 22 (.slice A n c) (.slice none 0 0)).run Tryd.prog w = .ok (.bool A.isNone) w :=
  Lib.run_eql_slice_nil w _ _ A n c 0 0 Tryd.underlying22

/-- bytes.Clone of nil. -/
theorem clone_nil (w : World) :
    Calls Tryd.prog 42 #[.slice none 0 0] w fun e w' => e = .returned (.slice none 0 0) ∧ w = w' := by
  have hE := eqNilBytes
  go_enter Tryd.func42, Tryd.ntmps42
  go_wp2
  go_ret
  exact ⟨rfl, rfl⟩

/-- bytes.Clone of a slice that is not nil: a row of its own. -/
theorem clone_any (b off n c : Nat) (l : List UInt8) (w : World) (h : At w b off l) (hn : n = l.length) (hc : n ≤ 140737488355328) :
    Calls Tryd.prog 42 #[.slice (some ⟨b, off, none⟩) n c] w fun e w' =>
      ∃ g c', e = .returned (.slice (some ⟨g, 0, none⟩) n c') ∧ Own w' w.heap.size (.slice (some ⟨g, 0, none⟩) n c') l ∧ Below w.heap.size w w' := by
  subst hn
  obtain ⟨i0, hi, hz0, hz1, hz2⟩ := info_parts Tryd.infoU8
  have hown : (w.alloc (.cells #[] 5)).ownsRow w.heap.size 5 1 (.slice (some ⟨w.heap.size, 0, none⟩) 0 0) 0 [] := World.ownsRow_made w #[] 0 (Nat.le_refl _) (by unfold maxLen; omega) rfl
  have hcs : ∀ (j : Nat) (u : Value), (l.map B)[j]? = some u → (w.alloc (.cells #[] 5)).cell? ((⟨b, off, none⟩ : Addr).add j) = some u := (h.keep (by simp) (Below.heap_alloc w _ b h.1)).adds
  have hE := eqNilBytes
  go_enter Tryd.func42, Tryd.ntmps42
  go_wp2_with (at_builtin; refine wpList_append_own _ rfl _ _ 22 rfl w.heap.size 5 i0 (.int .u8 0) 1 1 Tryd.underlying22 hi hz0 hz1 hz2 rfl (by decide) _ _ _ rfl hown ⟨b, off, none⟩ l.length c (l.map B) rfl ?c1 hcs (map_one l) ?c3 ?c4 ?c5 ?_)
  case c1 => simp
  case c3 => unfold maxLen; omega
  case c4 => omega
  case c5 => simp
  intro v' w' ho hg hv
  have H := Lib.hid hv
  clear hv hown hcs
  go_wp2
  go_ret
  obtain ⟨g, c', rfl⟩ := Own.form (l := l) ho H.out
  exact ⟨_, _, rfl, ho, ((Below.refl _ w).alloc (Nat.le_refl _) _).grown hg (by simp) (fun k hk => by cases hk; simp)⟩

theorem Tryd.prog_make (n : Nat) (hn : n ≤ 281474976710656) (w : World) : (Instr.makeSlice 22 (.int .i64 (n : Int)) (.int .i64 (n : Int))).run Tryd.prog w = .ok (.slice (some ⟨w.heap.size, 0, none⟩) n n) (w.alloc (.cells (madeCells #[.int .u8 0] n) 5)) := by
  obtain ⟨i0, hi, hz0, hz1, hz2⟩ := info_parts Tryd.infoU8
  have hr := run_make (P := Tryd.prog) w 22 5 i0 (.int .u8 0) Tryd.underlying22 hi hz0 .i64 .i64 n n (by omega) (by omega) (by rw [hz2]; omega) (by omega)
  simp only [Int.toNat_natCast, hz1, Nat.mul_one] at hr
  exact hr


/-- copy as a step of a region that draws: the source a row of our own. -/
theorem step_copy {ops : Array Oper} {o : Oper} {a : Act} {w : World} {K : Act → World → Prop} {Q : Exit → Act → World → Prop} {E : Prop} (hgd : o.guard = none) (d s : Operand)
    (ho : o.op = .call { callee := .builtin .copy, args := #[d, s], argTypes := #[22, 22] })
    (base g n0 c0 off dl dc : Nat) (l : List UInt8) (hown : Own w base (.slice (some ⟨g, 0, none⟩) n0 c0) l) (hd : a.eval d = .slice (some ⟨g, off, none⟩) dl dc) (hoff : off + dl ≤ l.length)
    (base' : Nat) (v : Value) (l2 : List UInt8) (hs : a.eval s = v) (hrd : Own w base' v l2)
    (h : ∀ w', Own w' base (.slice (some ⟨g, 0, none⟩) n0 c0) (splice l off (l2.take dl)) → w.grownBy w' (some g) → K (a.put o.dst (goInt ((min l2.length dl : Nat) : Int))) w') :
    if Region.wanted o (yielded ops a.tmps) = true then Oper.wp Tryd.prog o a w K Q else E := by
  rw [if_pos (by simp [Region.wanted, hgd])]
  obtain ⟨A, c, rfl, hr, _⟩ := hrd.shape
  exact op_copy d s ho base g n0 c0 off dl dc l hown hd hoff A l2.length c l2 hs hr h

/-- Put64: eight bytes are written over a row of bytes of our own. -/
theorem put64_any (base g n0 c0 off n c : Nat) (l : List UInt8) (x : UInt64) (w : World) (h : Own w base (.slice (some ⟨g, 0, none⟩) n0 c0) l) (_hb : base ≤ w.heap.size) (hn : off + n ≤ l.length) (h8 : 8 ≤ n) (hc : n ≤ c) :
    Calls Tryd.prog 69 #[.slice (some ⟨g, off, none⟩) n c, U64 x] w fun e w' => e = .returned (.tuple #[]) ∧ Own w' base (.slice (some ⟨g, 0, none⟩) n0 c0) (splice l off (bytes64 x)) ∧ Turn [g] w w' := by
  have lg := (h.lt (g := g) rfl).2
  have h8' : (8 : Int) ≤ c := by omega
  have hlen : l.length ≤ maxLen := by have := h.blk; omega
  unfold maxLen at hlen
  have hA := Lib.hid (append64_any (.slice none 0 0) x [] w.drew w.heap.size (World.ownsRow_nil _ _ _ _) (Nat.le_refl _) (by simp))
  go_enter Tryd.func69, Tryd.ntmps69
  go_wp2
  go_region_held3 (fun _ => True) (trivial) (first
    | (go_at_call 71; refine hA.out.mono ?_; rintro e w1 ⟨v1, rfl, ho1, ht1, hv1⟩; have ho := (show Own w.drew base _ l from h).turn ht1 (by simp [Value.ownBlock]))
    | (refine step_copy rfl _ _ rfl base g n0 c0 off 8 c l ho rfl (by omega) _ _ (bytes64 x) rfl ho1 ?_; intro w2 ho2 hg2))
  clear hA ho ho1
  have HT := Lib.hid (And.intro ht1 (And.intro hg2 ho2))
  clear ht1 hg2 ho2
  go_wp2
  go_end0
  obtain ⟨ht1, hg2, ho2⟩ := HT.out
  refine ⟨rfl, ho2, ?_⟩
  have ht : Turn [g] w w1 := ((Turn.refl [g] w).drew).trans ht1 (by simp [Value.ownBlock])
  exact ht.grown hg2 (fun k hk => by cases hk; simp)
end Go.Proofs.YtddemlajfbagdaaDoor
namespace Go.Proofs.YtddemlajfbagdaaDoor
open Go.RowKit

/-- What an append of bytes has left: the new slice, the row's bytes. -/
structure Grew (base : Nat) (w w' : World) (v : Value) (A : Option Addr) (n c : Nat) (l : List UInt8) : Prop where
  len : n = l.length
  own : Own w' base (.slice A n c) l
  below : Below base w w'
  grown : w.grownBy w' v.ownBlock
  at_ : (Value.slice A n c).ownBlock = v.ownBlock ∨ (Value.slice A n c).ownBlock = some w.heap.size
  nil : Value.slice A n c = .slice none 0 0 → l = []

theorem Own.len {w : World} {base n c : Nat} {A : Option Addr} {l : List UInt8} (h : Own w base (.slice A n c) l) : n = l.length := by
  obtain ⟨A', c', e, _⟩ := h.shape
  cases e; rfl
theorem Own.rd {w : World} {base n c : Nat} {A : Option Addr} {l : List UInt8} (h : Own w base (.slice A n c) l) : Rd w A n c l := by
  obtain ⟨A', c', e, hr, _⟩ := h.shape
  cases e; exact hr
theorem Own.addr_ge {w : World} {base n c : Nat} {A : Option Addr} {l : List UInt8} (h : Own w base (.slice A n c) l) : ∀ ad, A = some ad → base ≤ ad.block := by
  obtain ⟨A', c', e, hr, hb⟩ := h.shape
  cases e; exact hb
theorem Own.alloc_ {w : World} {base : Nat} {v : Value} {l : List UInt8} (h : Own w base v l) (o : Obj) : Own (w.alloc o) base v l := h.below ((Below.refl _ _).alloc (Nat.le_refl _) _)
theorem Own.nil (w : World) (base : Nat) : Own w base (.slice none 0 0) [] := World.ownsRow_nil _ _ _ _

theorem grew_of {w w' : World} {base : Nat} {v v' : Value} {l l2 : List UInt8} (hown : Own w base v l) (hbase : base ≤ w.heap.size) (h1 : Own w' base v' (l ++ l2)) (h2 : w.grownBy w' v.ownBlock) (h3 : v' = .slice none 0 0 ↔ v = .slice none 0 0 ∧ l2 = [])
    (h4 : v'.ownBlock = v.ownBlock ∨ v'.ownBlock = some w.heap.size) : ∃ A n c, v' = .slice A n c ∧ (n : Int) ≤ 9223372036854775807 ∧ Grew base w w' v A n c (l ++ l2) := by
  obtain ⟨A, c, rfl, hr, _⟩ := h1.shape
  have hm := hr.2.1
  have hm2 := hr.2.2.1
  unfold maxLen at hm2
  refine ⟨A, _, c, rfl, by omega, rfl, h1, (Below.refl base w).grown h2 hbase (fun k hk => (hown.lt hk).1), h2, h4, fun e => ?_⟩
  obtain ⟨rfl, rfl⟩ := h3.1 e
  obtain ⟨A', c', e', hr', _⟩ := hown.shape
  injection e' with _ e2 _
  rw [List.append_nil]; exact List.length_eq_zero_iff.1 e2.symm

/-- append of bytes onto a row of the call's own, in a plain region. -/
theorem wp_app2 {ops : Array Oper} {rest : List Oper} {o : Oper} {a : Act} {w : World} {Q : Exit → Act → World → Prop} (s x : Operand) (base : Nat) (v : Value) (l : List UInt8) (hown : Own w base v l) (hbase : base ≤ w.heap.size)
    (A : Option Addr) (m c : Nat) (l2 : List UInt8) (hrd : Rd w A m c l2) (hlen : l.length + l2.length ≤ 140737488355328) (hgd : o.guard = none)
    (ho : o.op = .call { callee := .builtin .append, args := #[s, x], argTypes := #[22, 22] }) (hs : a.eval s = v) (hx : a.eval x = .slice A m c)
    (h : ∀ (A' : Option Addr) (n' c' : Nat) (w' : World), (n' : Int) ≤ 9223372036854775807 → Grew base w w' v A' n' c' (l ++ l2) → wpList Tryd.prog ops Q rest (a.put o.dst (.slice A' n' c')) w') : wpList Tryd.prog ops Q (o :: rest) a w :=
  wp_app hgd s x ho base v l hs hown A m c l2 hx hrd hlen hbase fun v' w' h1 h2 h3 h4 => by
    obtain ⟨A', n', c', rfl, hn, hg⟩ := grew_of hown hbase h1 h2 h3 h4
    exact h _ _ _ _ hn hg
theorem rd_lit {w : World} {l2 : List UInt8} {cs : Array Value} {n : Nat} (hcs : cs = (l2.map B).toArray) (hn : n = l2.length) (hl : n ≤ 1000000) : Rd (w.alloc (.cells cs 5)) (some ⟨w.heap.size, 0, none⟩) n n l2 := by
  subst hcs hn
  exact Rd.of_blk (heap_alloc_new w _) (by unfold maxLen; omega)
/-- append of bytes that stand written out: they lie in a block of their own. -/
theorem wp_app_lit {ops : Array Oper} {rest : List Oper} {o : Oper} {a : Act} {w : World} {Q : Exit → Act → World → Prop} (s x : Operand) (base : Nat) (v : Value) (l : List UInt8) (hown : Own w base v l) (hbase : base ≤ w.heap.size)
    (l2 : List UInt8) (hlen : l.length ≤ 140737488354000) (hl2 : l2.length ≤ 1000) (hgd : o.guard = none)
    (ho : o.op = .call { callee := .builtin .append, args := #[s, x], argTypes := #[22, 22] }) (hs : a.eval s = v) {n : Nat} {cs : Array Value} (hcs : cs = (l2.map B).toArray) (hn : n = l2.length) (hx : a.eval x = .slice (some ⟨w.heap.size, 0, none⟩) n n)
    (h : ∀ (A' : Option Addr) (n' c' : Nat) (w' : World), (n' : Int) ≤ 9223372036854775807 → Grew base (w.alloc (.cells cs 5)) w' v A' n' c' (l ++ l2) → wpList Tryd.prog ops Q rest (a.put o.dst (.slice A' n' c')) w') : wpList Tryd.prog ops Q (o :: rest) a (w.alloc (.cells cs 5)) :=
  wp_app2 s x base v l (hown.alloc_ _) (by simp; omega) _ n n l2 (rd_lit hcs hn (by omega)) (by omega) hgd ho hs hx h
/-- The same as a step of a region that draws. -/
theorem step_app2 {ops : Array Oper} {o : Oper} {a : Act} {w : World} {K : Act → World → Prop} {Q : Exit → Act → World → Prop} {E : Prop} (s x : Operand) (base : Nat) (v : Value) (l : List UInt8) (hown : Own w base v l) (hbase : base ≤ w.heap.size)
    (A : Option Addr) (m c : Nat) (l2 : List UInt8) (hrd : Rd w A m c l2) (hlen : l.length + l2.length ≤ 140737488355328) (hgd : o.guard = none)
    (ho : o.op = .call { callee := .builtin .append, args := #[s, x], argTypes := #[22, 22] }) (hs : a.eval s = v) (hx : a.eval x = .slice A m c)
    (h : ∀ (A' : Option Addr) (n' c' : Nat) (w' : World), (n' : Int) ≤ 9223372036854775807 → Grew base w w' v A' n' c' (l ++ l2) → K (a.put o.dst (.slice A' n' c')) w') :
    if Region.wanted o (yielded ops a.tmps) = true then Oper.wp Tryd.prog o a w K Q else E :=
  step_app hgd s x ho base v l hs hown A m c l2 hx hrd hlen hbase fun v' w' h1 h2 h3 h4 => by
    obtain ⟨A', n', c', rfl, hn, hg⟩ := grew_of hown hbase h1 h2 h3 h4
    exact h _ _ _ _ hn hg
theorem step_app_lit {ops : Array Oper} {o : Oper} {a : Act} {w : World} {K : Act → World → Prop} {Q : Exit → Act → World → Prop} {E : Prop} (s x : Operand) (base : Nat) (v : Value) (l : List UInt8) (hown : Own w base v l) (hbase : base ≤ w.heap.size)
    (l2 : List UInt8) (hlen : l.length ≤ 140737488354000) (hl2 : l2.length ≤ 1000) (hgd : o.guard = none)
    (ho : o.op = .call { callee := .builtin .append, args := #[s, x], argTypes := #[22, 22] }) (hs : a.eval s = v) {n : Nat} {cs : Array Value} (hcs : cs = (l2.map B).toArray) (hn : n = l2.length) (hx : a.eval x = .slice (some ⟨w.heap.size, 0, none⟩) n n)
    (h : ∀ (A' : Option Addr) (n' c' : Nat) (w' : World), (n' : Int) ≤ 9223372036854775807 → Grew base (w.alloc (.cells cs 5)).drew w' v A' n' c' (l ++ l2) → K (a.put o.dst (.slice A' n' c')) w') :
    if Region.wanted o (yielded ops a.tmps) = true then Oper.wp Tryd.prog o a (w.alloc (.cells cs 5)).drew K Q else E :=
  step_app2 s x base v l (show Own (w.alloc (.cells cs 5)).drew base v l from hown.alloc_ _) (by simp; omega) _ n n l2 (show Rd (w.alloc (.cells cs 5)).drew _ _ _ _ from rd_lit hcs hn (by omega)) (by omega) hgd ho hs hx h

/-- What lies below a row's base is kept by an append to it. -/
theorem kept {w1 w2 : World} {v : Value} {base g k : Nat} {l : List UInt8} {u : Value} (hO : Own w1 base v l) (hg : w1.grownBy w2 v.ownBlock) (h : g < base) (hb : base ≤ w1.heap.size) (hc : w1.cell? ⟨g, k, none⟩ = some u) : w2.cell? ⟨g, k, none⟩ = some u := by
  rw [World.cell?_of_block (a := ⟨g, k, none⟩) (hg.block g (by omega) (fun e => by have := (hO.lt e.symm).1; omega))]; exact hc
theorem Grew.kept {base : Nat} {w w' : World} {v : Value} {A : Option Addr} {n c g k : Nat} {l : List UInt8} {u : Value} (h : Grew base w w' v A n c l) (hg : g < base) (hc : w.cell? ⟨g, k, none⟩ = some u) : w'.cell? ⟨g, k, none⟩ = some u :=
  (h.below.cell (p := ⟨g, k, none⟩) hg).trans hc

/-- A row of bytes is written at place k. -/
theorem Own.frozen {w : World} {base g n c : Nat} {l : List UInt8} (h : Own w base (.slice (some ⟨g, 0, none⟩) n c) l) (i : Nat) : w.frozen? ⟨g, i, none⟩ = false := by
  obtain ⟨_, _, _, _, cur, hh, _⟩ := h.blk
  simp [World.frozen?, hh]
theorem Own.set_ {w : World} {base g n c : Nat} {l : List UInt8} (h : Own w base (.slice (some ⟨g, 0, none⟩) n c) l) (k : Nat) (x : UInt8) (_hk : k < n) : Own (w.setCell ⟨g, k, none⟩ (B x)) base (.slice (some ⟨g, 0, none⟩) n c) (l.set k x) := by
  obtain ⟨e0, e1, e2, e3, cur, hh, hcl, htk⟩ := h.blk
  have hb : Blk w g 5 cur.toArray := hh
  have hb2 := hb.set_ k (B x)
  rw [List.setIfInBounds_toArray] at hb2
  have hl : (l.set k x).length = n := by rw [List.length_set]; exact e0.symm
  have := Own.of_cells (l := l.set k x) hb2 e3 (by rw [List.length_set]; exact hcl) e2 (by omega) (by rw [hl, List.take_set, htk, List.map_set])
  rwa [hl] at this
theorem Own.cell {w : World} {base g n c : Nat} {l : List UInt8} (h : Own w base (.slice (some ⟨g, 0, none⟩) n c) l) (k : Nat) (x : UInt8) (hx : l[k]? = some x) : w.cell? ⟨g, k, none⟩ = some (B x) := by
  obtain ⟨h1, h2, h3, ⟨h4, _⟩ | ⟨b, off, h4, h5⟩⟩ := h.rd
  · cases h4
  · cases h4
    have := h5.2 k x hx
    rwa [Nat.zero_add] at this
/-- Bytes that stand written out are a row of their own. -/
theorem own_lit {w : World} {l : List UInt8} {cs : Array Value} {n : Nat} (hcs : cs = (l.map B).toArray) (hn : n = l.length) (hl : l.length ≤ 1000000) : Own (w.alloc (.cells cs 5)) w.heap.size (.slice (some ⟨w.heap.size, 0, none⟩) n n) l := by
  subst hcs hn
  exact Own.of_cells (cur := l.map B) (heap_alloc_new w _) (Nat.le_refl _) (by simp) (by unfold maxLen; omega) (Nat.le_refl _) (by rw [← List.length_map (f := B), List.take_length])
end Go.Proofs.YtddemlajfbagdaaDoor
