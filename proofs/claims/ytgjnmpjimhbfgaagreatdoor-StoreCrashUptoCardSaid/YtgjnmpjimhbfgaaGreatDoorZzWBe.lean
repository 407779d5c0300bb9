/-
  append on bytes, as the walk meets it; contracts of zbyte.Append32, Append64, Put64, bytes.Clone.
-/
import Derived.Test.YtgjnmpjimhbfgaaGreatDoorZzWordsB
import Derived.Laws.AppendOwnNone
import Derived.Laws.CopyOwn
import Derived.Deep.RegionHeld3
namespace Go.Proofs.YtgjnmpjimhbfgaaGreatDoor
set_option maxRecDepth 100000
open Go.RowKit
theorem Tryz.infoU8 : (Tryz.prog.info? 5).map (fun i => (i.zero, i.size, i.bytes)) = some (some (.int .u8 0), 1, 1) := by kernel_rfl
theorem op_app {o : Oper} {a : Act} {w : World} {K : Act → World → Prop} {Q : Exit → Act → World → Prop} (s x : Operand)
  (ho : o.op = .call { callee := .builtin .append, args := #[s, x], argTypes := #[32, 32] })
  (base : Nat) (v : Value) (l : List UInt8) (hs : a.eval s = v) (hown : Own w base v l)
  (A : Option Addr) (m c : Nat) (l2 : List UInt8) (hx : a.eval x = .slice A m c) (hrd : Rd w A m c l2) (hlen : l.length + l2.length ≤ 140737488355328) (hbase : base ≤ w.heap.size)
  (h : ∀ v' w', Own w' base v' (l ++ l2) → w.grownBy w' v.ownBlock → (v' = .slice none 0 0 ↔ v = .slice none 0 0 ∧ l2 = []) → (v'.ownBlock = v.ownBlock ∨ v'.ownBlock = some w.heap.size) → K (a.put o.dst v') w') :
  Oper.wp Tryz.prog o a w K Q := by
 obtain ⟨i0, hi, hz0, hz1, hz2⟩ := info_parts Tryz.infoU8
 obtain ⟨h1, h2, h3, ⟨rfl, hc⟩ | ⟨b, off, rfl, h4⟩⟩ := hrd
 ·obtain rfl : m = 0 := by omega
  obtain rfl : l2 = [] := List.length_eq_zero_iff.1 h1.symm
  subst hc
  have hrun := run_append_owned_none (P := Tryz.prog) (w := w) base 32 o.type 5 i0 1 Tryz.underlying32 hi v l.length (l.map B) hown
  unfold Oper.wp
  simp only [execOp, ho, resolve, invoke, builtin, Sem.run_bind, Sem.run_pure, Result.andThen_ok, List.map_toArray, List.map_cons, List.map_nil, hs, hx, hrun]
  exact h v w (by rw [List.append_nil]; exact hown) ⟨rfl, rfl, rfl, Nat.le_refl _, fun _ _ _ => rfl⟩ (by simp) (.inl rfl)
 ·obtain ⟨v', w', hr, ho', hg, hn, hb⟩ := run_append_own_at (P := Tryz.prog) w base 32 o.type 5 i0 (.int .u8 0) 1 1 Tryz.underlying32 hi hz0 hz1 hz2 rfl (by decide) v l.length (l.map B) hown ⟨b, off, none⟩ m c (l2.map B) (by simp [h1])
   h4.adds (map_one _) (by unfold maxLen; omega) (by omega) hbase
  unfold Oper.wp
  simp only [execOp, ho, resolve, invoke, builtin, Sem.run_bind, Sem.run_pure, Result.andThen_ok, List.map_toArray, List.map_cons, List.map_nil, hs, hx, hr]
  refine h v' w' ?_ hg ?_ hb
  ·unfold Own
   rw [List.length_append, ← h1, List.map_append]
   exact ho'
  ·rw [hn, ← List.length_eq_zero_iff, ← h1]
theorem wp_app {ops : Array Oper} {rest : List Oper} {o : Oper} {a : Act} {w : World} {Q : Exit → Act → World → Prop} (hgd : o.guard = none) (s x : Operand)
  (ho : o.op = .call { callee := .builtin .append, args := #[s, x], argTypes := #[32, 32] })
  (base : Nat) (v : Value) (l : List UInt8) (hs : a.eval s = v) (hown : Own w base v l)
  (A : Option Addr) (m c : Nat) (l2 : List UInt8) (hx : a.eval x = .slice A m c) (hrd : Rd w A m c l2) (hlen : l.length + l2.length ≤ 140737488355328) (hbase : base ≤ w.heap.size)
  (h : ∀ v' w', Own w' base v' (l ++ l2) → w.grownBy w' v.ownBlock → (v' = .slice none 0 0 ↔ v = .slice none 0 0 ∧ l2 = []) → (v'.ownBlock = v.ownBlock ∨ v'.ownBlock = some w.heap.size) → wpList Tryz.prog ops Q rest (a.put o.dst v') w') :
  wpList Tryz.prog ops Q (o :: rest) a w :=
 wpList_plain hgd fun _ hK => op_app s x ho base v l hs hown A m c l2 hx hrd hlen hbase fun v' w' h1 h2 h3 h4 => hK _ _ (h v' w' h1 h2 h3 h4)
theorem step_app {ops : Array Oper} {o : Oper} {a : Act} {w : World} {K : Act → World → Prop} {Q : Exit → Act → World → Prop} {E : Prop} (hgd : o.guard = none) (s x : Operand)
  (ho : o.op = .call { callee := .builtin .append, args := #[s, x], argTypes := #[32, 32] })
  (base : Nat) (v : Value) (l : List UInt8) (hs : a.eval s = v) (hown : Own w base v l)
  (A : Option Addr) (m c : Nat) (l2 : List UInt8) (hx : a.eval x = .slice A m c) (hrd : Rd w A m c l2) (hlen : l.length + l2.length ≤ 140737488355328) (hbase : base ≤ w.heap.size)
  (h : ∀ v' w', Own w' base v' (l ++ l2) → w.grownBy w' v.ownBlock → (v' = .slice none 0 0 ↔ v = .slice none 0 0 ∧ l2 = []) → (v'.ownBlock = v.ownBlock ∨ v'.ownBlock = some w.heap.size) → K (a.put o.dst v') w') :
  if Region.wanted o (yielded ops a.tmps) = true then Oper.wp Tryz.prog o a w K Q else E := by
 rw [if_pos (by simp [Region.wanted, hgd])]
 exact op_app s x ho base v l hs hown A m c l2 hx hrd hlen hbase h
theorem Own.blk {w : World} {base g n c : Nat} {l : List UInt8} (h : Own w base (.slice (some ⟨g, 0, none⟩) n c) l) : n = l.length ∧ n ≤ c ∧ c ≤ maxLen ∧ base ≤ g ∧ ∃ cur : List Value, w.heap[g]? = some (.cells cur.toArray 5 (0, 0)) ∧ cur.length = c ∧ cur.take n = l.map B := by
 obtain ⟨h1, h2⟩ := h
 rcases h2 with ⟨h2, _⟩ | ⟨g', cap, cur, he, hg, hh, hnc, hm, hcur, hx⟩
 ·cases h2
 ·cases he
  exact ⟨rfl, hnc, hm, hg, cur.toList, hh, by simpa using hcur, by simpa using hx⟩
theorem Own.of_cells {w : World} {base g c : Nat} {l : List UInt8} {cur : List Value} (hh : w.heap[g]? = some (.cells cur.toArray 5 (0, 0))) (hg : base ≤ g) (hc : cur.length = c) (hm : c ≤ maxLen) (hl : l.length ≤ c) (hx : cur.take l.length = l.map B) : Own w base (.slice (some ⟨g, 0, none⟩) l.length c) l :=
 ⟨by simp, .inr ⟨g, c, cur.toArray, rfl, hg, hh, hl, hm, by simpa using hc, by simpa using hx⟩⟩
theorem op_copy {o : Oper} {a : Act} {w : World} {K : Act → World → Prop} {Q : Exit → Act → World → Prop} (d s : Operand)
  (ho : o.op = .call { callee := .builtin .copy, args := #[d, s], argTypes := #[32, 32] })
  (base g n0 c0 off dl dc : Nat) (l : List UInt8) (hown : Own w base (.slice (some ⟨g, 0, none⟩) n0 c0) l) (hd : a.eval d = .slice (some ⟨g, off, none⟩) dl dc) (hoff : off + dl ≤ l.length)
  (A : Option Addr) (m c : Nat) (l2 : List UInt8) (hs : a.eval s = .slice A m c) (hrd : Rd w A m c l2)
  (h : ∀ w', Own w' base (.slice (some ⟨g, 0, none⟩) n0 c0) (splice l off (l2.take dl)) → w.grownBy w' (some g) → K (a.put o.dst (goInt ((min m dl : Nat) : Int))) w') :
  Oper.wp Tryz.prog o a w K Q := by
 obtain ⟨i0, hi, hz0, hz1, hz2⟩ := info_parts Tryz.infoU8
 have hsz : (Tryz.prog.info? 5).map (·.size) = some 1 := by rw [hi]; simp [hz1]
 obtain ⟨e0, e1, e2, e3, cur, hh, hcl, htk⟩ := hown.blk
 obtain ⟨h1, h2, h3, h4⟩ := hrd
 have hlen : (l2.take dl).length = Nat.min m dl := by rw [List.length_take, ← h1]; exact Nat.min_comm _ _
 have hcap : l.length ≤ cur.length := by omega
 by_cases h0 : Nat.min m dl = 0
 ·have hrun := run_copy_none (P := Tryz.prog) w 32 32 o.type 5 (some ⟨g, off, none⟩) A dl dc m c Tryz.underlying32 hsz h0
  unfold Oper.wp
  simp only [execOp, ho, resolve, invoke, builtin, Sem.run_bind, Sem.run_pure, Result.andThen_ok, List.map_toArray, List.map_cons, List.map_nil, hs, hd, hrun]
  have hnil : l2.take dl = [] := List.length_eq_zero_iff.1 (by rw [hlen, h0])
  have hz : min m dl = 0 := h0
  rw [hz] at h
  exact h w (by rw [hnil]; simpa [splice] using hown) ⟨rfl, rfl, rfl, Nat.le_refl _, fun _ _ _ => rfl⟩
 ·rcases h4 with ⟨rfl, hc⟩ | ⟨b, so, rfl, h4⟩
  ·exact absurd (show Nat.min m dl = 0 by have : m = 0 := by omega
                                          subst this; exact Nat.zero_min _) h0
  ·have hrun := run_copy_row (P := Tryz.prog) w 32 32 o.type 5 g off dl dc ⟨b, so, none⟩ m c cur.toArray 5 ((l2.take dl).map B) Tryz.underlying32 hsz hh (by simpa using hlen)
    (fun j v hv => (h4.take dl).adds j v hv) (by rw [List.length_map, hlen]; have : Nat.min m dl ≤ dl := Nat.min_le_right _ _; simp; omega) (map_one _)
   unfold Oper.wp
   simp only [execOp, ho, resolve, invoke, builtin, Sem.run_bind, Sem.run_pure, Result.andThen_ok, List.map_toArray, List.map_cons, List.map_nil, hs, hd, hrun]
   have hgo : goInt (((l2.take dl).map B).length : Nat) = goInt ((min m dl : Nat) : Int) := by rw [List.length_map, hlen]
   rw [hgo]
   have hk : (l2.take dl).length ≤ dl := by rw [hlen]; exact Nat.min_le_right _ _
   refine h _ ?_ ?_
   rotate_left
   ·exact ⟨rfl, rfl, rfl, by simp [World.setRow], fun k hk' hne => setRow_other w g k _ (fun e => hne (by rw [e]))⟩
   generalize l2.take dl = z at *
   have hlk : (splice l off z).length = l.length := length_splice _ _ _ (by omega)
   rw [e0, ← hlk]
   refine Own.of_cells (setRow_heap w g _ _ _ _ hh) e3 ?_ e2 (by omega) ?_
   ·simp only [List.length_append, List.length_take, List.length_drop, List.length_map]; omega
   ·rw [hlk, ← e0]
    apply List.ext_getElem?
    intro i
    have htk' : ∀ i, i < n0 → cur[i]? = (l[i]?).map B := fun i hi => by
     have := congrArg (fun z => z[i]?) htk
     simpa [List.getElem?_take, hi] using this
    unfold splice
    rw [List.getElem?_take, List.getElem?_map, List.append_assoc]
    by_cases hi : i < n0
    ·rw [if_pos hi]
     by_cases ho : i < off
     ·rw [List.getElem?_append_left (l₁ := cur.take off) (by simp; omega), List.getElem?_append_left (l₁ := l.take off) (by simp; omega), List.getElem?_take, if_pos ho, List.getElem?_take, if_pos ho, htk' i hi]
     ·have q1 : (List.take off cur).length = off := by simp; omega
      have q2 : (List.take off l).length = off := by simp; omega
      rw [List.getElem?_append_right (l₁ := cur.take off) (by omega), List.getElem?_append_right (l₁ := l.take off) (by omega), q1, q2]
      by_cases hz : i - off < z.length
      ·rw [List.getElem?_append_left (by simpa using hz), List.getElem?_append_left hz, List.getElem?_map]
      ·rw [List.getElem?_append_right (by simpa using hz), List.getElem?_append_right (by omega), List.getElem?_drop, List.getElem?_drop, List.length_map]
       have q3 : off + z.length + (i - off - z.length) = i := by omega
       rw [q3, htk' i hi]
    ·rw [if_neg hi, List.getElem?_eq_none (by simp; omega)]
     rfl
theorem Turn.of_grown {w w' : World} {v : Value} (hg : w.grownBy w' v.ownBlock) : Turn v.ownBlock.toList w w' :=
 ⟨hg.os, hg.tape, hg.output, hg.size, fun k hk hn => hg.block k hk (fun e => hn (by rw [← e]; simp))⟩
theorem Turn.app {w w1 w2 : World} {v v' : Value} (h : Turn v.ownBlock.toList w w1) (hg : w1.grownBy w2 v'.ownBlock) (hv : v'.ownBlock = v.ownBlock ∨ ∃ k, w.heap.size ≤ k ∧ v'.ownBlock = some k) : Turn v.ownBlock.toList w w2 := by
 refine h.grown hg fun k hk => ?_
 rcases hv with hv | ⟨j, hj, hv⟩
 ·left; rw [← hv, hk]; simp
 ·right; rw [hv] at hk; cases hk; exact hj
theorem Rd.of_blk {w : World} {g : Nat} {fr : Nat × Nat} {l : List UInt8} (h : w.heap[g]? = some (.cells (l.map B).toArray 5 fr)) (hl : l.length ≤ maxLen) : Rd w (some ⟨g, 0, none⟩) l.length l.length l := by
 refine ⟨rfl, Nat.le_refl _, hl, .inr ⟨g, 0, rfl, ?_, fun k x hx => ?_⟩⟩
 ·rcases Nat.lt_or_ge g w.heap.size with h' | h'
  ·exact h'
  ·rw [Array.getElem?_eq_none h'] at h; cases h
 ·simp [World.cell?, h, hx]
def bytes32 (x : UInt32) : List UInt8 := [(x >>> 24).toUInt8, (x >>> 16).toUInt8, (x >>> 8).toUInt8, x.toUInt8]
def bytes64 (x : UInt64) : List UInt8 := [(x >>> 56).toUInt8, (x >>> 48).toUInt8, (x >>> 40).toUInt8, (x >>> 32).toUInt8, (x >>> 24).toUInt8, (x >>> 16).toUInt8, (x >>> 8).toUInt8, x.toUInt8]
theorem append32_any (v : Value) (x : UInt32) (l : List UInt8) (w : World) (base : Nat) (h : Own w base v l) (hb : base ≤ w.heap.size) (hl : l.length ≤ 140737488351000) :
  Calls Tryz.prog 67 #[v, U32 x] w fun e w' => ∃ v', e = .returned v' ∧ Own w' base v' (l ++ bytes32 x) ∧ Turn v.ownBlock.toList w w' ∧ v' ≠ .slice none 0 0 := by
 have ho2 : Own (w.alloc (.cells #[B (x >>> 24).toUInt8, B (x >>> 16).toUInt8, B (x >>> 8).toUInt8, B x.toUInt8] 5)) base v l := h.below ((Below.refl _ _).alloc (Nat.le_refl _) _)
 have hr : Rd (w.alloc (.cells #[B (x >>> 24).toUInt8, B (x >>> 16).toUInt8, B (x >>> 8).toUInt8, B x.toUInt8] 5)) (some ⟨w.heap.size, 0, none⟩) 4 4 (bytes32 x) := Rd.of_blk (l := bytes32 x) (heap_alloc_new w _) (by simp [bytes32, maxLen])
 go_enter Tryz.func67, Tryz.ntmps67
 go_wp2_with (at_builtin; refine wp_app rfl _ _ rfl base v l rfl ho2 (some ⟨w.heap.size, 0, none⟩) 4 4 (bytes32 x) rfl hr ?c3 ?c5 ?_)
 case c3 => simp [bytes32]; omega
 case c5 => simp; omega
 intro v' w' ho hg hn hb
 have HB := Lib.hid (And.intro hn hb)
 clear hn hb hr ho2
 go_wp2
 go_ret
 refine ⟨_, rfl, ho, (((Turn.refl _ w).alloc _).app hg (.inl rfl)), ?_⟩
 intro e
 have := (HB.out.1.1 e).2
 simp [bytes32] at this
theorem append64_any (v : Value) (x : UInt64) (l : List UInt8) (w : World) (base : Nat) (h : Own w base v l) (hb : base ≤ w.heap.size) (hl : l.length ≤ 140737488351000) :
  Calls Tryz.prog 87 #[v, U64 x] w fun e w' => ∃ v', e = .returned v' ∧ Own w' base v' (l ++ bytes64 x) ∧ Turn v.ownBlock.toList w w' ∧ v' ≠ .slice none 0 0 := by
 have ho2 : Own (w.alloc (.cells #[B (x >>> 56).toUInt8, B (x >>> 48).toUInt8, B (x >>> 40).toUInt8, B (x >>> 32).toUInt8, B (x >>> 24).toUInt8, B (x >>> 16).toUInt8, B (x >>> 8).toUInt8, B x.toUInt8] 5)) base v l := h.below ((Below.refl _ _).alloc (Nat.le_refl _) _)
 have hr : Rd (w.alloc (.cells #[B (x >>> 56).toUInt8, B (x >>> 48).toUInt8, B (x >>> 40).toUInt8, B (x >>> 32).toUInt8, B (x >>> 24).toUInt8, B (x >>> 16).toUInt8, B (x >>> 8).toUInt8, B x.toUInt8] 5)) (some ⟨w.heap.size, 0, none⟩) 8 8 (bytes64 x) := Rd.of_blk (l := bytes64 x) (heap_alloc_new w _) (by simp [bytes64, maxLen])
 go_enter Tryz.func87, Tryz.ntmps87
 go_wp2_with (at_builtin; refine wp_app rfl _ _ rfl base v l rfl ho2 (some ⟨w.heap.size, 0, none⟩) 8 8 (bytes64 x) rfl hr ?c3 ?c5 ?_)
 case c3 => simp [bytes64]; omega
 case c5 => simp; omega
 intro v' w' ho hg hn hb
 have HB := Lib.hid (And.intro hn hb)
 clear hn hb hr ho2
 go_wp2
 go_ret
 refine ⟨_, rfl, ho, (((Turn.refl _ w).alloc _).app hg (.inl rfl)), ?_⟩
 intro e
 have := (HB.out.1.1 e).2
 simp [bytes64] at this
theorem eqNilBytes (A : Option Addr) (n c : Nat) (w : World) : (binOp .eql 32 (.slice A n c) (.slice none 0 0)).run Tryz.prog w = .ok (.bool A.isNone) w :=
 Lib.run_eql_slice_nil w _ _ A n c 0 0 Tryz.underlying32
theorem clone_nil (w : World) :
  Calls Tryz.prog 43 #[.slice none 0 0] w fun e w' => e = .returned (.slice none 0 0) ∧ w = w' := by
 have hE := eqNilBytes
 go_enter Tryz.func43, Tryz.ntmps43
 go_wp2
 go_ret
 exact ⟨rfl, rfl⟩
theorem clone_any (b off n c : Nat) (l : List UInt8) (w : World) (h : At w b off l) (hn : n = l.length) (hc : n ≤ 140737488355328) :
  Calls Tryz.prog 43 #[.slice (some ⟨b, off, none⟩) n c] w fun e w' =>
   ∃ g c', e = .returned (.slice (some ⟨g, 0, none⟩) n c') ∧ Own w' w.heap.size (.slice (some ⟨g, 0, none⟩) n c') l ∧ Below w.heap.size w w' := by
 subst hn
 obtain ⟨i0, hi, hz0, hz1, hz2⟩ := info_parts Tryz.infoU8
 have hown : (w.alloc (.cells #[] 5)).ownsRow w.heap.size 5 1 (.slice (some ⟨w.heap.size, 0, none⟩) 0 0) 0 [] := World.ownsRow_made w #[] 0 (Nat.le_refl _) (by unfold maxLen; omega) rfl
 have hcs : ∀ (j : Nat) (u : Value), (l.map B)[j]? = some u → (w.alloc (.cells #[] 5)).cell? ((⟨b, off, none⟩ : Addr).add j) = some u := (h.keep (by simp) (Below.heap_alloc w _ b h.1)).adds
 have hE := eqNilBytes
 go_enter Tryz.func43, Tryz.ntmps43
 go_wp2_with (at_builtin; refine wpList_append_own _ rfl _ _ 32 rfl w.heap.size 5 i0 (.int .u8 0) 1 1 Tryz.underlying32 hi hz0 hz1 hz2 rfl (by decide) _ _ _ rfl hown ⟨b, off, none⟩ l.length c (l.map B) rfl ?c1 hcs (map_one l) ?c3 ?c4 ?c5 ?_)
 case c1 => simp
 case c3 => unfold maxLen; omega
 case c4 => omega
 case c5 => simp
 intro v' w' ho hg hv
 have H := Lib.hid hv
 clear hv hown hcs
 go_wp2
 go_ret
 obtain ⟨g, c', rfl⟩ := Own.form (l := l) ho H.out
 exact ⟨_, _, rfl, ho, ((Below.refl _ w).alloc (Nat.le_refl _) _).grown hg (by simp) (fun k hk => by cases hk; simp)⟩
theorem Tryz.prog_make (n : Nat) (hn : n ≤ 281474976710656) (w : World) : (Instr.makeSlice 32 (.int .i64 (n : Int)) (.int .i64 (n : Int))).run Tryz.prog w = .ok (.slice (some ⟨w.heap.size, 0, none⟩) n n) (w.alloc (.cells (madeCells #[.int .u8 0] n) 5)) := by
 obtain ⟨i0, hi, hz0, hz1, hz2⟩ := info_parts Tryz.infoU8
 have hr := run_make (P := Tryz.prog) w 32 5 i0 (.int .u8 0) Tryz.underlying32 hi hz0 .i64 .i64 n n (by omega) (by omega) (by rw [hz2]; omega) (by omega)
 simp only [Int.toNat_natCast, hz1, Nat.mul_one] at hr
 exact hr
theorem step_copy {ops : Array Oper} {o : Oper} {a : Act} {w : World} {K : Act → World → Prop} {Q : Exit → Act → World → Prop} {E : Prop} (hgd : o.guard = none) (d s : Operand)
  (ho : o.op = .call { callee := .builtin .copy, args := #[d, s], argTypes := #[32, 32] })
  (base g n0 c0 off dl dc : Nat) (l : List UInt8) (hown : Own w base (.slice (some ⟨g, 0, none⟩) n0 c0) l) (hd : a.eval d = .slice (some ⟨g, off, none⟩) dl dc) (hoff : off + dl ≤ l.length)
  (base' : Nat) (v : Value) (l2 : List UInt8) (hs : a.eval s = v) (hrd : Own w base' v l2)
  (h : ∀ w', Own w' base (.slice (some ⟨g, 0, none⟩) n0 c0) (splice l off (l2.take dl)) → w.grownBy w' (some g) → K (a.put o.dst (goInt ((min l2.length dl : Nat) : Int))) w') :
  if Region.wanted o (yielded ops a.tmps) = true then Oper.wp Tryz.prog o a w K Q else E := by
 rw [if_pos (by simp [Region.wanted, hgd])]
 obtain ⟨A, c, rfl, hr, _⟩ := hrd.shape
 exact op_copy d s ho base g n0 c0 off dl dc l hown hd hoff A l2.length c l2 hs hr h
theorem put64_any (base g n0 c0 off n c : Nat) (l : List UInt8) (x : UInt64) (w : World) (h : Own w base (.slice (some ⟨g, 0, none⟩) n0 c0) l) (_hb : base ≤ w.heap.size) (hn : off + n ≤ l.length) (h8 : 8 ≤ n) (hc : n ≤ c) :
  Calls Tryz.prog 135 #[.slice (some ⟨g, off, none⟩) n c, U64 x] w fun e w' => e = .returned (.tuple #[]) ∧ Own w' base (.slice (some ⟨g, 0, none⟩) n0 c0) (splice l off (bytes64 x)) ∧ Turn [g] w w' := by
 have lg := (h.lt (g := g) rfl).2
 have h8' : (8 : Int) ≤ c := by omega
 have hlen : l.length ≤ maxLen := by have := h.blk; omega
 unfold maxLen at hlen
 have hA := Lib.hid (append64_any (.slice none 0 0) x [] w.drew w.heap.size (World.ownsRow_nil _ _ _ _) (Nat.le_refl _) (by simp))
 go_enter Tryz.func135, Tryz.ntmps135
 go_wp2
 go_region_held3 (fun _ => True) (trivial) (first
  | (go_at_call 87; refine hA.out.mono ?_; rintro e w1 ⟨v1, rfl, ho1, ht1, hv1⟩; have ho := (show Own w.drew base _ l from h).turn ht1 (by simp [Value.ownBlock]))
  | (refine step_copy rfl _ _ rfl base g n0 c0 off 8 c l ho rfl (by omega) _ _ (bytes64 x) rfl ho1 ?_; intro w2 ho2 hg2))
 clear hA ho ho1
 have HT := Lib.hid (And.intro ht1 (And.intro hg2 ho2))
 clear ht1 hg2 ho2
 go_wp2
 go_end0
 obtain ⟨ht1, hg2, ho2⟩ := HT.out
 refine ⟨rfl, ho2, ?_⟩
 have ht : Turn [g] w w1 := ((Turn.refl [g] w).drew).trans ht1 (by simp [Value.ownBlock])
 exact ht.grown hg2 (fun k hk => by cases hk; simp)
theorem allB8 {P : UInt8 → Prop} (h : ∀ i : Fin 256, P (UInt8.ofNat i.val)) (a : UInt8) : P a := by
 have := h ⟨a.toNat, a.toNat_lt⟩
 simpa using this
theorem bw_56_56 (x : UInt8) : ((x.toUInt64 <<< 56) >>> 56).toUInt8 = x := by revert x; refine allB8 ?_; decide +kernel
theorem bw_56_48 (x : UInt8) : ((x.toUInt64 <<< 56) >>> 48).toUInt8 = 0 := by revert x; refine allB8 ?_; decide +kernel
theorem bw_56_40 (x : UInt8) : ((x.toUInt64 <<< 56) >>> 40).toUInt8 = 0 := by revert x; refine allB8 ?_; decide +kernel
theorem bw_56_32 (x : UInt8) : ((x.toUInt64 <<< 56) >>> 32).toUInt8 = 0 := by revert x; refine allB8 ?_; decide +kernel
theorem bw_56_24 (x : UInt8) : ((x.toUInt64 <<< 56) >>> 24).toUInt8 = 0 := by revert x; refine allB8 ?_; decide +kernel
theorem bw_56_16 (x : UInt8) : ((x.toUInt64 <<< 56) >>> 16).toUInt8 = 0 := by revert x; refine allB8 ?_; decide +kernel
theorem bw_56_8 (x : UInt8) : ((x.toUInt64 <<< 56) >>> 8).toUInt8 = 0 := by revert x; refine allB8 ?_; decide +kernel
theorem bw_56_0 (x : UInt8) : (x.toUInt64 <<< 56).toUInt8 = 0 := by revert x; refine allB8 ?_; decide +kernel
theorem bw_48_56 (x : UInt8) : ((x.toUInt64 <<< 48) >>> 56).toUInt8 = 0 := by revert x; refine allB8 ?_; decide +kernel
theorem bw_48_48 (x : UInt8) : ((x.toUInt64 <<< 48) >>> 48).toUInt8 = x := by revert x; refine allB8 ?_; decide +kernel
theorem bw_48_40 (x : UInt8) : ((x.toUInt64 <<< 48) >>> 40).toUInt8 = 0 := by revert x; refine allB8 ?_; decide +kernel
theorem bw_48_32 (x : UInt8) : ((x.toUInt64 <<< 48) >>> 32).toUInt8 = 0 := by revert x; refine allB8 ?_; decide +kernel
theorem bw_48_24 (x : UInt8) : ((x.toUInt64 <<< 48) >>> 24).toUInt8 = 0 := by revert x; refine allB8 ?_; decide +kernel
theorem bw_48_16 (x : UInt8) : ((x.toUInt64 <<< 48) >>> 16).toUInt8 = 0 := by revert x; refine allB8 ?_; decide +kernel
theorem bw_48_8 (x : UInt8) : ((x.toUInt64 <<< 48) >>> 8).toUInt8 = 0 := by revert x; refine allB8 ?_; decide +kernel
theorem bw_48_0 (x : UInt8) : (x.toUInt64 <<< 48).toUInt8 = 0 := by revert x; refine allB8 ?_; decide +kernel
theorem bw_40_56 (x : UInt8) : ((x.toUInt64 <<< 40) >>> 56).toUInt8 = 0 := by revert x; refine allB8 ?_; decide +kernel
theorem bw_40_48 (x : UInt8) : ((x.toUInt64 <<< 40) >>> 48).toUInt8 = 0 := by revert x; refine allB8 ?_; decide +kernel
theorem bw_40_40 (x : UInt8) : ((x.toUInt64 <<< 40) >>> 40).toUInt8 = x := by revert x; refine allB8 ?_; decide +kernel
theorem bw_40_32 (x : UInt8) : ((x.toUInt64 <<< 40) >>> 32).toUInt8 = 0 := by revert x; refine allB8 ?_; decide +kernel
theorem bw_40_24 (x : UInt8) : ((x.toUInt64 <<< 40) >>> 24).toUInt8 = 0 := by revert x; refine allB8 ?_; decide +kernel
theorem bw_40_16 (x : UInt8) : ((x.toUInt64 <<< 40) >>> 16).toUInt8 = 0 := by revert x; refine allB8 ?_; decide +kernel
theorem bw_40_8 (x : UInt8) : ((x.toUInt64 <<< 40) >>> 8).toUInt8 = 0 := by revert x; refine allB8 ?_; decide +kernel
theorem bw_40_0 (x : UInt8) : (x.toUInt64 <<< 40).toUInt8 = 0 := by revert x; refine allB8 ?_; decide +kernel
theorem bw_32_56 (x : UInt8) : ((x.toUInt64 <<< 32) >>> 56).toUInt8 = 0 := by revert x; refine allB8 ?_; decide +kernel
theorem bw_32_48 (x : UInt8) : ((x.toUInt64 <<< 32) >>> 48).toUInt8 = 0 := by revert x; refine allB8 ?_; decide +kernel
theorem bw_32_40 (x : UInt8) : ((x.toUInt64 <<< 32) >>> 40).toUInt8 = 0 := by revert x; refine allB8 ?_; decide +kernel
theorem bw_32_32 (x : UInt8) : ((x.toUInt64 <<< 32) >>> 32).toUInt8 = x := by revert x; refine allB8 ?_; decide +kernel
theorem bw_32_24 (x : UInt8) : ((x.toUInt64 <<< 32) >>> 24).toUInt8 = 0 := by revert x; refine allB8 ?_; decide +kernel
theorem bw_32_16 (x : UInt8) : ((x.toUInt64 <<< 32) >>> 16).toUInt8 = 0 := by revert x; refine allB8 ?_; decide +kernel
theorem bw_32_8 (x : UInt8) : ((x.toUInt64 <<< 32) >>> 8).toUInt8 = 0 := by revert x; refine allB8 ?_; decide +kernel
theorem bw_32_0 (x : UInt8) : (x.toUInt64 <<< 32).toUInt8 = 0 := by revert x; refine allB8 ?_; decide +kernel
theorem bw_24_56 (x : UInt8) : ((x.toUInt64 <<< 24) >>> 56).toUInt8 = 0 := by revert x; refine allB8 ?_; decide +kernel
theorem bw_24_48 (x : UInt8) : ((x.toUInt64 <<< 24) >>> 48).toUInt8 = 0 := by revert x; refine allB8 ?_; decide +kernel
theorem bw_24_40 (x : UInt8) : ((x.toUInt64 <<< 24) >>> 40).toUInt8 = 0 := by revert x; refine allB8 ?_; decide +kernel
theorem bw_24_32 (x : UInt8) : ((x.toUInt64 <<< 24) >>> 32).toUInt8 = 0 := by revert x; refine allB8 ?_; decide +kernel
theorem bw_24_24 (x : UInt8) : ((x.toUInt64 <<< 24) >>> 24).toUInt8 = x := by revert x; refine allB8 ?_; decide +kernel
theorem bw_24_16 (x : UInt8) : ((x.toUInt64 <<< 24) >>> 16).toUInt8 = 0 := by revert x; refine allB8 ?_; decide +kernel
theorem bw_24_8 (x : UInt8) : ((x.toUInt64 <<< 24) >>> 8).toUInt8 = 0 := by revert x; refine allB8 ?_; decide +kernel
theorem bw_24_0 (x : UInt8) : (x.toUInt64 <<< 24).toUInt8 = 0 := by revert x; refine allB8 ?_; decide +kernel
theorem bw_16_56 (x : UInt8) : ((x.toUInt64 <<< 16) >>> 56).toUInt8 = 0 := by revert x; refine allB8 ?_; decide +kernel
theorem bw_16_48 (x : UInt8) : ((x.toUInt64 <<< 16) >>> 48).toUInt8 = 0 := by revert x; refine allB8 ?_; decide +kernel
theorem bw_16_40 (x : UInt8) : ((x.toUInt64 <<< 16) >>> 40).toUInt8 = 0 := by revert x; refine allB8 ?_; decide +kernel
theorem bw_16_32 (x : UInt8) : ((x.toUInt64 <<< 16) >>> 32).toUInt8 = 0 := by revert x; refine allB8 ?_; decide +kernel
theorem bw_16_24 (x : UInt8) : ((x.toUInt64 <<< 16) >>> 24).toUInt8 = 0 := by revert x; refine allB8 ?_; decide +kernel
theorem bw_16_16 (x : UInt8) : ((x.toUInt64 <<< 16) >>> 16).toUInt8 = x := by revert x; refine allB8 ?_; decide +kernel
theorem bw_16_8 (x : UInt8) : ((x.toUInt64 <<< 16) >>> 8).toUInt8 = 0 := by revert x; refine allB8 ?_; decide +kernel
theorem bw_16_0 (x : UInt8) : (x.toUInt64 <<< 16).toUInt8 = 0 := by revert x; refine allB8 ?_; decide +kernel
theorem bw_8_56 (x : UInt8) : ((x.toUInt64 <<< 8) >>> 56).toUInt8 = 0 := by revert x; refine allB8 ?_; decide +kernel
theorem bw_8_48 (x : UInt8) : ((x.toUInt64 <<< 8) >>> 48).toUInt8 = 0 := by revert x; refine allB8 ?_; decide +kernel
theorem bw_8_40 (x : UInt8) : ((x.toUInt64 <<< 8) >>> 40).toUInt8 = 0 := by revert x; refine allB8 ?_; decide +kernel
theorem bw_8_32 (x : UInt8) : ((x.toUInt64 <<< 8) >>> 32).toUInt8 = 0 := by revert x; refine allB8 ?_; decide +kernel
theorem bw_8_24 (x : UInt8) : ((x.toUInt64 <<< 8) >>> 24).toUInt8 = 0 := by revert x; refine allB8 ?_; decide +kernel
theorem bw_8_16 (x : UInt8) : ((x.toUInt64 <<< 8) >>> 16).toUInt8 = 0 := by revert x; refine allB8 ?_; decide +kernel
theorem bw_8_8 (x : UInt8) : ((x.toUInt64 <<< 8) >>> 8).toUInt8 = x := by revert x; refine allB8 ?_; decide +kernel
theorem bw_8_0 (x : UInt8) : (x.toUInt64 <<< 8).toUInt8 = 0 := by revert x; refine allB8 ?_; decide +kernel
theorem bw_0_56 (x : UInt8) : (x.toUInt64 >>> 56).toUInt8 = 0 := by revert x; refine allB8 ?_; decide +kernel
theorem bw_0_48 (x : UInt8) : (x.toUInt64 >>> 48).toUInt8 = 0 := by revert x; refine allB8 ?_; decide +kernel
theorem bw_0_40 (x : UInt8) : (x.toUInt64 >>> 40).toUInt8 = 0 := by revert x; refine allB8 ?_; decide +kernel
theorem bw_0_32 (x : UInt8) : (x.toUInt64 >>> 32).toUInt8 = 0 := by revert x; refine allB8 ?_; decide +kernel
theorem bw_0_24 (x : UInt8) : (x.toUInt64 >>> 24).toUInt8 = 0 := by revert x; refine allB8 ?_; decide +kernel
theorem bw_0_16 (x : UInt8) : (x.toUInt64 >>> 16).toUInt8 = 0 := by revert x; refine allB8 ?_; decide +kernel
theorem bw_0_8 (x : UInt8) : (x.toUInt64 >>> 8).toUInt8 = 0 := by revert x; refine allB8 ?_; decide +kernel
theorem bw_0_0 (x : UInt8) : x.toUInt64.toUInt8 = x := by revert x; refine allB8 ?_; decide +kernel
theorem bytes_be64 (a b c d e f g h : UInt8) : bytes64 (be64 a b c d e f g h) = [a, b, c, d, e, f, g, h] := by
 unfold bytes64 be64
 simp only [UInt64.shiftRight_or, UInt64.toUInt8_or, bw_56_56, bw_56_48, bw_56_40, bw_56_32, bw_56_24, bw_56_16, bw_56_8, bw_56_0, bw_48_56, bw_48_48, bw_48_40, bw_48_32, bw_48_24, bw_48_16, bw_48_8, bw_48_0, bw_40_56, bw_40_48, bw_40_40, bw_40_32, bw_40_24, bw_40_16, bw_40_8, bw_40_0, bw_32_56, bw_32_48, bw_32_40, bw_32_32, bw_32_24, bw_32_16, bw_32_8, bw_32_0, bw_24_56, bw_24_48, bw_24_40, bw_24_32, bw_24_24, bw_24_16, bw_24_8, bw_24_0, bw_16_56, bw_16_48, bw_16_40, bw_16_32, bw_16_24, bw_16_16, bw_16_8, bw_16_0, bw_8_56, bw_8_48, bw_8_40, bw_8_32, bw_8_24, bw_8_16, bw_8_8, bw_8_0, bw_0_56, bw_0_48, bw_0_40, bw_0_32, bw_0_24, bw_0_16, bw_0_8, bw_0_0, UInt8.zero_or, UInt8.or_zero]
theorem bytes64_inj {x y : UInt64} (h : bytes64 x = bytes64 y) : x = y := by
 unfold bytes64 at h
 injection h with e0 h
 injection h with e1 h
 injection h with e2 h
 injection h with e3 h
 injection h with e4 h
 injection h with e5 h
 injection h with e6 h
 injection h with e7 h
 have f0 := congrArg UInt8.toNat e0
 have f1 := congrArg UInt8.toNat e1
 have f2 := congrArg UInt8.toNat e2
 have f3 := congrArg UInt8.toNat e3
 have f4 := congrArg UInt8.toNat e4
 have f5 := congrArg UInt8.toNat e5
 have f6 := congrArg UInt8.toNat e6
 have f7 := congrArg UInt8.toNat e7
 simp only [UInt64.toNat_toUInt8, UInt64.toNat_shiftRight, Nat.shiftRight_eq_div_pow, show (56 : UInt64).toNat % 64 = 56 from rfl, show (48 : UInt64).toNat % 64 = 48 from rfl, show (40 : UInt64).toNat % 64 = 40 from rfl, show (32 : UInt64).toNat % 64 = 32 from rfl, show (24 : UInt64).toNat % 64 = 24 from rfl, show (16 : UInt64).toNat % 64 = 16 from rfl, show (8 : UInt64).toNat % 64 = 8 from rfl] at f0 f1 f2 f3 f4 f5 f6 f7
 have hx := x.toNat_lt
 have hy := y.toNat_lt
 apply UInt64.toNat_inj.1
 omega
theorem word64_bytes64 (x : UInt64) (r : List UInt8) : word64 (bytes64 x ++ r) 0 = x := by
 apply bytes64_inj
 have h : word64 (bytes64 x ++ r) 0 = be64 (x >>> 56).toUInt8 (x >>> 48).toUInt8 (x >>> 40).toUInt8 (x >>> 32).toUInt8 (x >>> 24).toUInt8 (x >>> 16).toUInt8 (x >>> 8).toUInt8 x.toUInt8 := rfl
 rw [h, bytes_be64]; rfl
end Go.Proofs.YtgjnmpjimhbfgaaGreatDoor
