/-
  Modes: a row of bytes of one's own from a spot on: append keeps what lies ahead.
-/
import Derived.Test.YtgjnmpjimhbfgaaGreatDoorZzEqB
import Derived.Deep.AppendSrc
namespace Go.Proofs.YtgjnmpjimhbfgaaGreatDoor
set_option maxRecDepth 100000
open Go.RowKit
def OwnO (w : World) (base : Nat) (v : Value) (l : List UInt8) : Prop :=
 (∃ A, v = .slice A 0 0 ∧ Rd w A 0 0 l) ∨ ∃ g c pre, v = .slice (some ⟨g, pre.length, none⟩) l.length c ∧ 0 < c ∧ Own w base (.slice (some ⟨g, 0, none⟩) (pre.length + l.length) (pre.length + c)) (pre ++ l)
theorem OwnO.of {w : World} {base : Nat} {v : Value} {l : List UInt8} (h : Own w base v l) : OwnO w base v l := by
 have h' := h
 rcases h.2 with ⟨rfl, e⟩ | ⟨g, cap, cur, rfl, _⟩
 ·obtain rfl : l = [] := by simpa using e
  exact .inl ⟨none, rfl, Rd.nil w⟩
 ·rcases Nat.eq_zero_or_pos cap with rfl | hc
  ·have hr := h'.rd
   obtain rfl : l = [] := List.length_eq_zero_iff.1 (by have := hr.2.1; omega)
   exact .inl ⟨_, rfl, hr⟩
  ·exact .inr ⟨g, cap, [], rfl, hc, by simpa using h'⟩
theorem OwnO.rd {w : World} {base : Nat} {A : Option Addr} {m c : Nat} {l : List UInt8} (h : OwnO w base (.slice A m c) l) : Rd w A m c l := by
 rcases h with ⟨A, h, h2⟩ | ⟨g, c', pre, h, hc, h2⟩
 ·cases h
  exact h2
 ·cases h
  have h3 := h2.rd.cut (k := pre.length) (by omega)
  rw [if_neg (by omega), Nat.add_sub_cancel_left, Nat.add_sub_cancel_left, List.drop_left] at h3
  have e : (some (⟨g, 0, none⟩ : Addr)).map (·.add pre.length) = some ⟨g, pre.length, none⟩ := by cases pre <;> simp [Addr.add]
  rw [e] at h3
  exact h3
theorem OwnO.len {w : World} {base : Nat} {A : Option Addr} {m c : Nat} {l : List UInt8} (h : OwnO w base (.slice A m c) l) : m = l.length := h.rd.1
theorem OwnO.cut {w : World} {base : Nat} {A : Option Addr} {m c : Nat} {l : List UInt8} (h : OwnO w base (.slice A m c) l) {k : Nat} (hk : k ≤ m) : OwnO w base (.slice (if c = k then A else A.map (·.add k)) (m - k) (c - k)) (l.drop k) := by
 have hr := h.rd.cut hk
 rcases h with ⟨A', h, h2⟩ | ⟨g, c', pre, h, hc, h2⟩
 ·cases h
  obtain rfl : k = 0 := by omega
  rw [if_pos rfl] at hr ⊢
  exact .inl ⟨A, rfl, hr⟩
 ·injection h with e1 e2 e3
  subst e1 e2 e3
  by_cases hck : c = k
  ·rw [if_pos hck] at hr ⊢
   have hle := h2.rd.2.1
   have e1 : l.length - k = 0 := by omega
   have e2 : c - k = 0 := by omega
   rw [e1, e2] at hr ⊢
   exact .inl ⟨_, rfl, hr⟩
  ·rw [if_neg hck]
   have hle := h2.rd.2.1
   refine .inr ⟨g, c - k, pre ++ l.take k, ?_, by omega, ?_⟩
   ·rw [List.length_drop, List.length_append, List.length_take, Nat.min_eq_left hk]
    simp only [Option.map_some, Addr.add_mid]
   ·have e : pre ++ l.take k ++ l.drop k = pre ++ l := by rw [List.append_assoc, List.take_append_drop]
    rw [e]
    have e1 : (pre ++ l.take k).length + (l.drop k).length = pre.length + l.length := by simp; omega
    have e2 : (pre ++ l.take k).length + (c - k) = pre.length + c := by simp; omega
    rw [e1, e2]
    exact h2
theorem OwnO.turn {w w' : World} {S : List Nat} {base : Nat} {A : Option Addr} {m c : Nat} {l : List UInt8} (h : OwnO w base (.slice A m c) l) (ht : Turn S w w') (hn : ∀ ad, A = some ad → ad.block ∉ S) : OwnO w' base (.slice A m c) l := by
 rcases h with ⟨A', h, h2⟩ | ⟨g, c', pre, h, hc, h2⟩
 ·cases h
  exact .inl ⟨A, rfl, h2.turn ht hn⟩
 ·injection h with e1 e2 e3
  subst e1 e2 e3
  exact .inr ⟨g, _, pre, rfl, hc, h2.turn ht (fun g' hg' => by simp [Value.ownBlock] at hg'; subst hg'; exact hn _ rfl)⟩
theorem OwnO.below {w w' : World} {base : Nat} {A : Option Addr} {m c : Nat} {l : List UInt8} (h : OwnO w base (.slice A m c) l) (hb : Below w.heap.size w w') : OwnO w' base (.slice A m c) l := h.turn (Turn.of_below [] hb) (fun _ _ => by simp)
theorem OwnO.nil (w : World) (base : Nat) : OwnO w base (.slice none 0 0) [] := .inl ⟨none, rfl, Rd.nil w⟩
theorem src_rd {w : World} {A : Option Addr} {m c : Nat} {l : List UInt8} (h : Rd w A m c l) : Src Tryz.prog 1 32 (.slice A m c) m (l.map B) w := by
 obtain ⟨h1, h2, h3, ⟨rfl, hc⟩ | ⟨b, off, rfl, h4⟩⟩ := h
 ·obtain rfl : m = 0 := by omega
  obtain rfl : l = [] := List.length_eq_zero_iff.1 h1.symm
  exact Src.ofNil w Tryz.underlying32 c
 ·exact Src.ofSlice w Tryz.underlying32 ⟨b, off, none⟩ m c _ (by simp [h1]) h4.adds (map_one _)
theorem run_append_grown (w : World) (ty : TypeId) (A : Option Addr) (n c : Nat) (l : List UInt8) (h : Rd w A n c l) (A2 : Option Addr) (m c2 : Nat) (l2 : List UInt8) (h2 : Rd w A2 m c2 l2) (hg : c < n + m) (hlen : l.length + l2.length ≤ 140737488351232) :
  ∃ C w', (Builtin.append_ #[32, 32] ty #[.slice A n c, .slice A2 m c2]).run Tryz.prog w = .ok (.slice (some ⟨w.heap.size, 0, none⟩) (n + m) C) w' ∧ 0 < C ∧ Own w' w.heap.size (.slice (some ⟨w.heap.size, 0, none⟩) (n + m) C) (l ++ l2) ∧ Below w.heap.size w w' := by
 obtain ⟨i0, hi, hz0, hz1, hz2⟩ := info_parts Tryz.infoU8
 have hn := h.1
 have hm := h2.1
 have hold : (Builtin.firstCells i0.size n (.slice A n c)).run Tryz.prog w.drew = .ok (l.map B).toArray w.drew := by
  rw [hz1]
  have := (src_rd (h.below ((Below.refl _ w).drew))).cells
  exact this
 have hs : Src Tryz.prog i0.size 32 (.slice A2 m c2) m (l2.map B) w := by rw [hz1]; exact src_rd h2
 have hr := run_append_grow_src (P := Tryz.prog) w 32 32 ty 5 i0 (.int .u8 0) Tryz.underlying32 hi hz0 A n c (l.map B) hold _ m (l2.map B) hs hg (by omega) (growslice_fits (by omega) (by rw [hz2]; omega))
 have hge := grownCap_ge w (n + m) c 5
 have hcm : grownCap w (n + m) c 5 ≤ maxLen := grownCap_le_maxLen w (n + m) c 5 (by unfold maxLen; omega)
 refine ⟨_, _, hr, by omega, ?_, (((Below.refl w.heap.size w).drew).alloc (Nat.le_refl _) _)⟩
 have hll : (l ++ l2).length = n + m := by rw [List.length_append, ← hn, ← hm]
 unfold Own
 rw [hll]
 refine ⟨by simp [hn, hm], .inr ⟨w.heap.size, _, _, rfl, Nat.le_refl _, heap_alloc_new w.drew _, hge, hcm, ?_, ?_⟩⟩
 ·simp only [Array.size_append, List.size_toArray, size_zeroCells, List.length_append, List.length_map, ← hn, ← hm]
  simp [Value.cells]
  omega
 ·simp only [Array.toList_append, Nat.mul_one, List.map_append]
  have e : n + m = (l.map B ++ l2.map B).length := by simp [hn, hm]
  rw [e, List.take_left]
theorem setCells_row (w : World) (g : Nat) (cur : Array Value) (e : TypeId) (hh : w.heap[g]? = some (.cells cur e (0, 0))) (o : Nat) (vs : List Value) (hfit : o + vs.length ≤ cur.size) (h1 : ∀ u ∈ vs, u.oneCell' = true) :
  w.setCells g o vs = w.setRow g (cur.toList.take o ++ vs ++ cur.toList.drop (o + vs.length)).toArray := by
 have hb : Blk w g e cur := hh
 have r1 := run_storeCells_at Tryz.prog g o e vs 0 cur w hh (by simpa using hfit) h1
 have r2 := run_storeCells_cells (P := Tryz.prog) g o vs 0 w (fun j hj => by rw [hb.cell]; simp; omega) (fun j _ => hb.frozen _) h1
 have e := r2.symm.trans r1
 injection e with e1 e2
structure GrewO (base : Nat) (w w' : World) (A0 : Option Addr) (m0 c0 : Nat) (A : Option Addr) (n c : Nat) (l : List UInt8) : Prop where
 len : n = l.length
 own : OwnO w' base (.slice A n c) l
 turn : Turn (A0.map Addr.block).toList w w'
 keep : ∀ g o, A0 = some ⟨g, o, none⟩ → ∀ i u, i < o + m0 ∨ c0 = 0 → w.cell? ⟨g, i, none⟩ = some u → w'.cell? ⟨g, i, none⟩ = some u
 at_ : (A = A0 ∧ c = c0) ∨ A.map Addr.block = some w.heap.size
theorem cell_some_lt {w : World} {g i : Nat} {u : Value} (h : w.cell? ⟨g, i, none⟩ = some u) : g < w.heap.size := by
 rcases Nat.lt_or_ge g w.heap.size with h1 | h1
 ·exact h1
 ·simp [World.cell?, Array.getElem?_eq_none h1] at h
theorem run_app_O (w : World) (base : Nat) (ty : TypeId) (A0 : Option Addr) (m0 c0 : Nat) (l : List UInt8) (hown : OwnO w base (.slice A0 m0 c0) l) (A : Option Addr) (m c : Nat) (l2 : List UInt8) (hrd : Rd w A m c l2) (hlen : l.length + l2.length ≤ 140737488351232) (hbase : base ≤ w.heap.size) :
  ∃ A' n' c' w', (Builtin.append_ #[32, 32] ty #[.slice A0 m0 c0, .slice A m c]).run Tryz.prog w = .ok (.slice A' n' c') w' ∧ GrewO base w w' A0 m0 c0 A' n' c' (l ++ l2) := by
 have hrd0 := hown.rd
 by_cases hg : c0 < m0 + m
 ·obtain ⟨C, w', hr, hC, hO, hB⟩ := run_append_grown w ty A0 m0 c0 l hrd0 A m c l2 hrd hg hlen
  refine ⟨_, _, _, _, hr, ?_, ?_, Turn.of_below _ hB, fun g o _ i u _ hu => ?_, .inr rfl⟩
  ·rw [List.length_append, ← hrd0.1, ← hrd.1]
  ·exact OwnO.of (hO.mono hbase)
  ·rw [hB.cell (p := ⟨g, i, none⟩) (cell_some_lt hu)]; exact hu
 ·obtain ⟨i0, hi, hz0, hz1, hz2⟩ := info_parts Tryz.infoU8
  rcases hown with ⟨A', h, h2⟩ | ⟨g, c', pre, h, hc, h2⟩
  ·cases h
   obtain rfl : m = 0 := by omega
   obtain rfl : l = [] := List.length_eq_zero_iff.1 h2.1.symm
   obtain rfl : l2 = [] := List.length_eq_zero_iff.1 hrd.1.symm
   have hr : (Builtin.append_ #[32, 32] ty #[.slice A0 0 0, .slice A 0 c]).run Tryz.prog w = .ok (.slice A0 0 0) w := by
    rcases h2.2.2.2 with ⟨rfl, _⟩ | ⟨b, off, rfl, _⟩
    ·rcases hrd.2.2.2 with ⟨rfl, _⟩ | ⟨b2, off2, rfl, _⟩ <;> simp [Builtin.append_, run_underlying Tryz.underlying32, sizeOf, typeInfo, hi, Builtin.lenOf, Builtin.firstCells, loadCells, loadCellsFrom]
    ·have := run_append_room_src (P := Tryz.prog) w 32 32 ty 5 i0 Tryz.underlying32 hi b off 0 0 (.slice A 0 c) 0 [] (by rw [hz1]; exact src_rd hrd) (by omega) (fun j hj => by simp at hj) (fun j hj => by simp at hj)
     exact this
   exact ⟨_, _, _, _, hr, rfl, .inl ⟨_, rfl, h2⟩, Turn.refl _ _, fun _ _ _ _ _ _ h => h, .inl ⟨rfl, rfl⟩⟩
  ·injection h with e1 e2 e3
   subst e1 e2 e3
   have hm := hrd.1
   obtain ⟨e1, e2, e3, e4, cur, hh, hcl, hct⟩ := h2.blk
   have hcell : ∀ j, j < c0 + pre.length → (w.cell? ⟨g, j, none⟩).isSome = true := fun j hj => by
    have hb : Blk w g 5 cur.toArray := hh
    rw [hb.cell]
    simp [hcl]; omega
   have hr0 := run_append_room_src (P := Tryz.prog) w 32 32 ty 5 i0 Tryz.underlying32 hi g pre.length l.length c0 (.slice A m c) m (l2.map B) (by rw [hz1]; exact src_rd hrd) (by omega)
    (fun j hj => hcell _ (by rw [hz1]; simp at hj; omega)) (fun j hj => Blk.frozen (show Blk w g 5 cur.toArray from hh) _)
   have hr1 := run_append_room_src (P := Tryz.prog) w 32 32 ty 5 i0 Tryz.underlying32 hi g 0 (pre.length + l.length) (pre.length + c0) (.slice A m c) m (l2.map B) (by rw [hz1]; exact src_rd hrd) (by omega)
    (fun j hj => hcell _ (by rw [hz1]; simp at hj; omega)) (fun j hj => Blk.frozen (show Blk w g 5 cur.toArray from hh) _)
   rw [hz1] at hr0 hr1
   rw [Nat.mul_one] at hr0 hr1
   rw [Nat.zero_add] at hr1
   obtain ⟨cur2, hh2, hcl2, hct2, hgr⟩ : ∃ cur2 : List Value, (w.setCells g (pre.length + l.length) (l2.map B)).heap[g]? = some (.cells cur2.toArray 5 (0, 0)) ∧ cur2.length = pre.length + c0 ∧ cur2.take (pre.length + l.length + m) = (pre ++ l).map B ++ l2.map B ∧ w.grownBy (w.setCells g (pre.length + l.length) (l2.map B)) (some g) := by
    rw [setCells_row w g cur.toArray 5 hh (pre.length + l.length) (l2.map B) (by simp [hcl, ← hm]; omega) (map_one _)]
    refine ⟨_, setRow_heap w g cur.toArray _ 5 _ hh, ?_, ?_, ⟨rfl, rfl, rfl, by simp, fun k _ hk => setRow_other w g k _ (fun e => hk (by rw [e]))⟩⟩
    ·simp [hcl, ← hm]; omega
    ·rw [List.take_append_of_le_length (by simp [hcl]; omega)]
     rw [List.take_of_length_le (by simp [hcl]; omega), ← hct]
   have ho1 : Own (w.setCells g (pre.length + l.length) (l2.map B)) base (.slice (some ⟨g, 0, none⟩) (pre.length + l.length + m) (pre.length + c0)) (pre ++ l ++ l2) := by
    have := Own.of_cells (base := base) (c := pre.length + c0) (l := pre ++ l ++ l2) hh2 e4 hcl2 e3 (by simp; omega) (by rw [show (pre ++ l ++ l2).length = pre.length + l.length + m by simp [hm, Nat.add_assoc], hct2]; simp)
    rwa [show (pre ++ l ++ l2).length = pre.length + l.length + m by simp [hm, Nat.add_assoc]] at this
   have ho2 : Own (w.setCells g (pre.length + l.length) (l2.map B)) base (.slice (some ⟨g, 0, none⟩) (pre.length + l.length) (pre.length + c0)) (pre ++ l) := by
    have := Own.of_cells (base := base) (c := pre.length + c0) (l := pre ++ l) hh2 e4 hcl2 e3 (by simp; omega) (by
     have h5 := congrArg (List.take (pre ++ l).length) hct2
     rw [List.take_take, Nat.min_eq_left (by simp)] at h5
     rw [h5, List.take_append_of_le_length (by simp), List.take_of_length_le (by simp)])
    rwa [show (pre ++ l).length = pre.length + l.length by simp] at this
   have hll : (l ++ l2).length = l.length + m := by rw [List.length_append, ← hm]
   refine ⟨_, _, _, _, hr0, hll.symm, .inr ⟨g, c0, pre, by rw [hll], hc, ?_⟩, Turn.of_grown (v := .slice (some ⟨g, 0, none⟩) 0 0) hgr, fun g' o ho i u hi' hu => ?_, .inl ⟨rfl, rfl⟩⟩
   ·rw [hll, ← Nat.add_assoc, ← List.append_assoc]; exact ho1
   ·injection ho with ho; injection ho with ho4 ho5; subst ho4; rw [← ho5] at hi'
    have hi'' : i < pre.length + l.length := by omega
    obtain ⟨x, hx⟩ : ∃ x, (pre ++ l)[i]? = some x := ⟨_, List.getElem?_eq_getElem (by simp; omega)⟩
    have q1 := h2.at_.2 i x hx
    have q2 := ho2.at_.2 i x hx
    rw [Nat.zero_add] at q1 q2
    rw [q2, ← q1, hu]
theorem wp_app_O {ops : Array Oper} {rest : List Oper} {o : Oper} {a : Act} {w : World} {Q : Exit → Act → World → Prop} (s x : Operand) (base : Nat) (A0 : Option Addr) (m0 c0 : Nat) (l : List UInt8) (hown : OwnO w base (.slice A0 m0 c0) l) (hbase : base ≤ w.heap.size)
  (A : Option Addr) (m c : Nat) (l2 : List UInt8) (hrd : Rd w A m c l2) (hlen : l.length + l2.length ≤ 140737488351232) (hgd : o.guard = none)
  (ho : o.op = .call { callee := .builtin .append, args := #[s, x], argTypes := #[32, 32] }) (hs : a.eval s = .slice A0 m0 c0) (hx : a.eval x = .slice A m c)
  (h : ∀ (A' : Option Addr) (n' c' : Nat) (w' : World), GrewO base w w' A0 m0 c0 A' n' c' (l ++ l2) → wpList Tryz.prog ops Q rest (a.put o.dst (.slice A' n' c')) w') : wpList Tryz.prog ops Q (o :: rest) a w := by
 refine wpList_plain hgd fun K hK => ?_
 obtain ⟨A', n', c', w', hrun, hG⟩ := run_app_O w base o.type A0 m0 c0 l hown A m c l2 hrd hlen hbase
 unfold Oper.wp
 simp only [execOp, ho, resolve, invoke, builtin, Sem.run_bind, Sem.run_pure, Result.andThen_ok, List.map_toArray, List.map_cons, List.map_nil, hs, hx, hrun]
 exact hK _ _ (h _ _ _ _ hG)
end Go.Proofs.YtgjnmpjimhbfgaaGreatDoor
