/-
  append of zeros: 'append(b, make([]byte, k)...)'.
-/
import Derived.Test.YtgjnmpjimhbfgaaGreatDoorZzEqB
import Derived.Lib.AppendZerosOnto
namespace Go.Proofs.YtgjnmpjimhbfgaaGreatDoor
set_option maxRecDepth 100000
open Go.RowKit
theorem zeroCells_toList (k : Nat) : (Builtin.zeroCells #[.int .u8 0] k).toList = (zs k).map B := by
 unfold Builtin.zeroCells zs
 rw [List.map_replicate]
 apply List.ext_getElem?
 intro j
 by_cases h : j < k
 ·simp [h, B, Nat.mod_one]
 ·simp [h]
theorem run_append_ownZ (w : World) (base : Nat) (ty : TypeId) (v : Value) (l : List UInt8) (hown : Own w base v l) (k : Nat) (h0 : 0 < k) (hlen : l.length + k ≤ 1000000) (hbase : base ≤ w.heap.size) :
  ∃ v' w', (Builtin.append_ #[32, 3] ty #[v, .int .i64 (k : Int)]).run Tryz.prog w = .ok v' w' ∧ Own w' base v' (l ++ zs k) ∧ w.grownBy w' v.ownBlock ∧ v' ≠ .slice none 0 0 ∧ (v'.ownBlock = v.ownBlock ∨ v'.ownBlock = some w.heap.size) := by
 obtain ⟨i, hi, hz, hsz, hby⟩ := info_parts Tryz.infoU8
 have hzl := zeroCells_toList k
 have hcz : (Value.int .u8 0).cells = #[.int .u8 0] := rfl
 have hlz : ((l ++ zs k).map B).length = l.length + k := by simp [zs]
 have grown : ∀ (old : Nat), old < l.length + k → ∀ (row : Option Nat),
   Own (w.drew.alloc (.cells ((l.map B).toArray ++ Builtin.zeroCells #[.int .u8 0] k ++ Builtin.zeroCells #[.int .u8 0] (grownCap w (l.length + k) old 5 - (l.length + k))) 5)) base
    (.slice (some ⟨w.heap.size, 0, none⟩) (l.length + k) (grownCap w (l.length + k) old 5)) (l ++ zs k) ∧
   w.grownBy (w.drew.alloc (.cells ((l.map B).toArray ++ Builtin.zeroCells #[.int .u8 0] k ++ Builtin.zeroCells #[.int .u8 0] (grownCap w (l.length + k) old 5 - (l.length + k))) 5)) row := by
  intro old ho row
  have hge := grownCap_ge w (l.length + k) old 5
  have hcm : grownCap w (l.length + k) old 5 ≤ maxLen := grownCap_le_maxLen w (l.length + k) old 5 (by unfold maxLen; omega)
  have hll : (l ++ zs k).length = l.length + k := by simp [zs]
  refine ⟨⟨by simp, .inr ⟨w.heap.size, _, _, by rw [hll], hbase, heap_alloc_new w.drew _, by rw [hll]; exact hge, hcm, ?_, ?_⟩⟩, ⟨rfl, rfl, rfl, by simp, fun j hj _ => heap_alloc_old w.drew _ hj⟩⟩
  ·simp only [Array.size_append, List.size_toArray, size_zeroCells, List.length_map]
   simp
   omega
  ·simp only [Array.toList_append, hzl]
   rw [← List.map_append, Nat.mul_one]
   exact List.take_left' (by simp)
 rcases hown.2 with ⟨rfl, hl⟩ | ⟨g, cap, cur, rfl, hbg, hg, hnc, hcm, hcs, htake⟩
 ·have hx : l = [] := by simpa using hl
  subst hx
  have hr := Lib.run_append_nil_zeros (P := Tryz.prog) w 32 3 ty 5 i (.int .u8 0) .i64 .i64 Tryz.underlying32 Tryz.underlying3 hi hz k h0 (by omega) (by simp at hlen; omega) (by rw [hby]; simp at hlen; omega)
  have hgr := grown 0 (by simp; omega) (Value.ownBlock (.slice none 0 0))
  simp only [List.length_nil, Nat.zero_add, List.map_nil, Array.empty_append, List.nil_append] at hgr ⊢
  rw [hcz] at hr
  exact ⟨_, _, hr, hgr.1, hgr.2, by simp, .inr rfl⟩
 ·by_cases hroom : l.length + k ≤ cap
  ·have hst := run_storeCells_at Tryz.prog g l.length 5 ((zs k).map B) 0 cur w hg (by simp [zs]; rw [hcs]; simp; omega) (by simp [zs, B, Value.oneCell'])
   simp only [Nat.add_zero] at hst
   have hw : IntKind.i64.wrap (k : Int) = k := IntWalk.i64_in _ (by omega)
   have h48i : ¬ (281474976710656 < (k : Int)) := by omega
   have hneg : ¬ ((k : Int) < 0) := by omega
   have hk0 : k ≠ 0 := by omega
   have hrun : (Builtin.append_ #[32, 3] ty #[.slice (some ⟨g, 0, none⟩) l.length cap, .int .i64 (k : Int)]).run Tryz.prog w = .ok (.slice (some ⟨g, 0, none⟩) (l.length + k) cap) (w.setRow g (cur.toList.take l.length ++ (zs k).map B ++ cur.toList.drop (l.length + ((zs k).map B).length)).toArray) := by
    simp [Builtin.append_, run_underlying Tryz.underlying32, run_underlying Tryz.underlying3, sizeOf, typeInfo, zeroValue, hi, hz, hsz, hby, asInt, asIntOf, hw, hneg, h48i, hk0, hroom, Value.cells, Addr.add_lit, zeroCells_toList, hst]
   refine ⟨_, _, hrun, ⟨by simp, .inr ⟨g, cap, _, by simp [zs], hbg, setRow_heap w g cur _ 5 _ hg, by simp [zs]; omega, hcm, ?_, ?_⟩⟩, ⟨rfl, rfl, rfl, by simp, fun k _ hk => setRow_other w g k _ (fun e => hk (by simp [Value.ownBlock, e]))⟩, by simp, .inl rfl⟩
   ·simp only [List.size_toArray, List.length_append, List.length_take, List.length_drop, Array.length_toList, List.length_map]
    have : (zs k).length = k := by simp [zs]
    rw [hcs] at *
    simp
    omega
   ·have htake' : cur.toList.take l.length = l.map B := by simpa using htake
    simp only [htake']
    rw [← List.map_append, Nat.mul_one]
    exact List.take_left' (by simp)
  ·have hold : (Builtin.firstCells i.size l.length (.slice (some ⟨g, 0, none⟩) l.length cap)).run Tryz.prog w.drew = .ok (l.map B).toArray w.drew := by
    have hc := hown.cells (g := g) rfl
    have := run_firstCells_some (P := Tryz.prog) w.drew i.size l.length ⟨g, 0, none⟩ l.length cap (l.map B) (by simp [hsz]) (fun j u hj => hc j u hj)
    exact this
   have hr := Lib.run_append_grow_zeros (P := Tryz.prog) w 32 3 ty 5 i (.int .u8 0) .i64 .i64 Tryz.underlying32 Tryz.underlying3 hi hz (some ⟨g, 0, none⟩) l.length cap (l.map B) hold k h0 (by omega) (by omega) (by omega) (by rw [hby]; omega) (growslice_fits (by omega) (by rw [hby]; omega))
   have hgr := grown cap (by omega) (Value.ownBlock (.slice (some ⟨g, 0, none⟩) l.length cap))
   rw [hcz] at hr
   exact ⟨_, _, hr, hgr.1, hgr.2, by simp, .inr rfl⟩
theorem wp_appZ {ops : Array Oper} {rest : List Oper} {o : Oper} {a : Act} {w : World} {Q : Exit → Act → World → Prop} (s x : Operand) (base : Nat) (v : Value) (l : List UInt8) (hown : Own w base v l) (hbase : base ≤ w.heap.size)
  (k : Nat) (h0 : 0 < k) (hlen : l.length + k ≤ 1000000) (hgd : o.guard = none)
  (ho : o.op = .call { callee := .builtin .append, args := #[s, x], argTypes := #[32, 3] }) (hs : a.eval s = v) (hx : a.eval x = .int .i64 (k : Int))
  (h : ∀ (A' : Option Addr) (n' c' : Nat) (w' : World), (n' : Int) ≤ 9223372036854775807 → Grew base w w' v A' n' c' (l ++ zs k) → wpList Tryz.prog ops Q rest (a.put o.dst (.slice A' n' c')) w') : wpList Tryz.prog ops Q (o :: rest) a w := by
 obtain ⟨v', w', hr, h1, h2, h3, h4⟩ := run_append_ownZ w base o.type v l hown k h0 hlen hbase
 have hz : zs k ≠ [] := fun e => by have h9 := congrArg List.length e; simp [zs] at h9; omega
 obtain ⟨A', n', c', rfl, hn, hG⟩ := grew_of (l2 := zs k) hown hbase h1 h2 (by simp [h3, hz]) h4
 exact Lib.wpList_append_run w hgd s x _ _ ho _ _ hs hx _ _ hr (h _ _ _ _ hn hG)
end Go.Proofs.YtgjnmpjimhbfgaaGreatDoor
