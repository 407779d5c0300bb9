/-
  The iterator of a cipher's round keys.
-/
import Derived.Test.YtgjnmpjimhbfgaaGreatDoorZzAes4
import Derived.Test.YtgjnmpjimhbfgaaGreatDoorZzRangeH
import Derived.OwnWalkIn
import Derived.RangeFuncBound
import Derived.RangeFuncCalls
import Derived.OwnWalkIn
import Derived.TacticsInMore
import Derived.LoopNIn
import Derived.LoopIn
namespace Go.Proofs.YtgjnmpjimhbfgaaGreatDoor
set_option maxRecDepth 100000
open Go.RowKit
attribute [local go_sem] Oper.semAt_some
theorem wpListIn_load_mid {F : Fence} {n : Nat} {P : Program} {w : World} {ops : Array Oper} {rest : List Oper} {op : Oper} {a : Act} {Q : Exit → Act → World → Prop} (hgd : op.guard = none) (ty : TypeId) (x : Operand) (ho : op.op = .load ty x)
  (b o : Nat) (hx : a.eval x = .pointer (some ⟨b, o, none⟩)) (cs : List Value) (d : TypeDesc) (hc : w.rangeAt b o cs)
  (hu : P.underlying ty = some d) (hd : d.isRow = true) (hi : (P.info? ty).map (·.size) = some cs.length)
  (h : wpListIn F n P ops Q rest (a.put op.dst (.agg cs.toArray)) w) : wpListIn F n P ops Q (op :: rest) a w := by
 refine wpListIn_plain hgd fun K hK => ?_
 unfold Oper.wpIn
 refine ⟨?_, ?_⟩
 ·simp [Oper.about, ho]
 ·rw [Oper.semAt_plain F _ _ (by rw [ho]; intro c hc'; cases hc')]
  simp only [execOp, ho, hx, Instr.loadAt, Instr.sureAddr, Sem.run_bind, Sem.run_pure, Result.andThen_ok, run_loadVar_mid w b o ty cs d hc hu hd hi]
  exact hK _ _ h
theorem wpListIn_app_nil {F : Fence} {n : Nat} {ops : Array Oper} {rest : List Oper} {o : Oper} {a : Act} {w : World} {Q : Exit → Act → World → Prop} (hgd : o.guard = none) (x : Operand) (base : Nat) (hbase : base ≤ w.heap.size)
  (A : Option Addr) (m c : Nat) (l2 : List UInt8) (hrd : Rd w A m c l2) (hm : 0 < m) (hlen : l2.length ≤ 140737488351232)
  (ho : o.op = .call { callee := .builtin .append, args := #[.const (.slice none 0 0), x], argTypes := #[32, 32] }) (hx : a.eval x = .slice A m c)
  (h : ∀ (A' : Option Addr) (n' c' : Nat) (w' : World), (n' : Int) ≤ 9223372036854775807 → Grew base w w' (.slice none 0 0) A' n' c' ([] ++ l2) → wpListIn F n Tryz.prog ops Q rest (a.put o.dst (.slice A' n' c')) w') : wpListIn F n Tryz.prog ops Q (o :: rest) a w := by
 obtain ⟨i0, hi, hz0, hz1, hz2⟩ := info_parts Tryz.infoU8
 have hrd' := hrd
 obtain ⟨h1, h2, h3, _⟩ := hrd
 obtain ⟨b, off, rfl, h4⟩ := hrd'.addr hm
 obtain ⟨v', w', hrun, ho', hg, hn, hb⟩ := run_append_own_at (P := Tryz.prog) w base 32 o.type 5 i0 (.int .u8 0) 1 1 Tryz.underlying32 hi hz0 hz1 hz2 rfl (by decide) (.slice none 0 0) 0 [] (World.ownsRow_nil _ _ _ _) ⟨b, off, none⟩ m c (l2.map B) (by simp [h1])
  h4.adds (map_one _) (by unfold maxLen; omega) (by omega) hbase
 have hown : Own w' base v' ([] ++ l2) := by
  unfold Own
  rw [List.nil_append, ← h1]
  simpa using ho'
 obtain ⟨A', n', c', rfl, hn', hG⟩ := grew_of (l := []) (l2 := l2) (Own.nil w base) hbase hown hg (by rw [hn, ← List.length_eq_zero_iff, ← h1]) hb
 refine wpListIn_plain hgd fun K hK => ?_
 unfold Oper.wpIn
 refine ⟨?_, ?_⟩
 ·simp [Oper.about, ho, resolve, Target.leads, Sem.run_pure]
 ·rw [Oper.semAt_plain F _ _ (by rw [ho]; intro c hc'; cases hc')]
  have hs0 : a.eval (.const (.slice none 0 0)) = .slice none 0 0 := rfl
  simp [execOp, ho, resolve, invoke, builtin, hs0, hx, hrun, Result.andThen]
  exact hK _ _ (h A' n' c' w' hn' hG)
def keyArg (ks : List UInt8) (base k : Nat) (args : Array Value) (W : World) : Prop := ∃ A cq, args = #[.int .i64 (k : Int), .slice A 16 cq] ∧ Rd W A 16 cq (key ks k) ∧ ∀ ad, A = some ad → base ≤ ad.block
def keyMine (kb b0 c : Nat) (ks : List UInt8) (K R cp base : Nat) (_ : Nat) (W : World) : Prop := Blk W kb 136 #[.pointer (some ⟨c, 0, none⟩)] ∧ Cip W b0 c ks K R cp ∧ base ≤ W.heap.size ∧ kb < base ∧ c < base ∧ K < base
theorem keyMine.turn {kb b0 c : Nat} {ks : List UInt8} {K R cp base k : Nat} {S : List Nat} {W W' : World} (h : keyMine kb b0 c ks K R cp base k W) (ht : Turn S W W') (hS : ∀ t ∈ S, base ≤ t) (k' : Nat) : keyMine kb b0 c ks K R cp base k' W' := by
 obtain ⟨h1, h2, h3, h4, h5, h6⟩ := h
 have hn : ∀ x, x < base → x ∉ S := fun x hx hm => by have := hS x hm; omega
 refine ⟨h1.turn ht (hn _ h4), ?_, Nat.le_trans h3 ht.size, h4, h5, h6⟩
 obtain ⟨c1, c2, c3, c4, c5, c6, c7, c8, c9, c10, c11⟩ := h2
 refine ⟨⟨c1.1, c1.2.1, c1.2.2.turn ht (hn _ h5)⟩, c2, c3, Nat.lt_of_lt_of_le c4 ht.size, c5, c6, c7, c8, c9, c10, fun j x hx => ?_⟩
 rw [World.cell?_of_block (a := ⟨K, j, none⟩) (ht.block K c4 (hn _ h6))]; exact c11 j x hx
set_option maxRecDepth 100000 in
set_option maxHeartbeats 1000000 in
theorem keys_iter (kb b0 c : Nat) (ks : List UInt8) (K R cp base : Nat) :
  Iter Tryz.prog 160 #[.pointer (some ⟨kb, 0, none⟩)] (keyArg ks base) (keyMine kb b0 c ks K R cp base) R [] := by
 intro l' J Jx W hJ hJx hY h0 hM
 refine callsIn_of_wp Tryz.func160 rfl trivial ?_ rfl
 simp only [Tryz.ntmps160, List.size_toArray, List.length_cons, List.length_nil, Nat.reduceAdd, Nat.reduceSub, Array.replicate_succ, Array.replicate_zero, List.push_toArray, List.append_toArray, List.nil_append, List.cons_append]
 have hbc := hM.1.cell 0
 simp at hbc
 have c0 : W.cell? ⟨c, 0, none⟩ = some (.slice (some ⟨K, 0, none⟩) R cp) := by rw [hM.2.1.1.2.2.cell 0]; rfl
 have hR1 : 11 ≤ R := hM.2.1.2.2.2.2.2.2.1
 have hR2 : R ≤ 15 := hM.2.1.2.2.2.2.2.2.2.1
 have hks : ks.length = 16 * R := hM.2.1.2.2.2.2.2.1
 have HM := Lib.hid hM
 have HY := Lib.hid hY
 clear hM hY
 gi_wp2
 gi_loopw [12] (fun i wr => ∃ k : Nat, k ≤ R ∧ i = .int .i64 (k : Int) ∧ J k wr ∧ keyMine kb b0 c ks K R cp base k wr) (fun i _ => R - (intOf i).toNat)
 case atStart => exact ⟨0, by omega, rfl, h0, HM.out⟩
 case round =>
  obtain ⟨k, hk, rfl, hJk, hM⟩ := hrel
  clear hbc c0 h0
  by_cases hlt : k < R
  ·have hq : (k : Int) < R := by omega
   have hrd := hM.2.1.rd k hlt
   have hkl := key_len ks R k hks hlt
   obtain ⟨y0, y1, y2, y3, y4, y5, y6, y7, y8, y9, y10, y11, y12, y13, y14, y15, hl16⟩ := list16 (key ks k) hkl
   have hrng : wr.rangeAt K (k * 16) [B y0, B y1, B y2, B y3, B y4, B y5, B y6, B y7, B y8, B y9, B y10, B y11, B y12, B y13, B y14, B y15] := fun j v hv => by
    have hv' : ((key ks k).map B)[j]? = some v := by rw [hl16]; exact hv
    rw [List.getElem?_map] at hv'
    obtain ⟨x, hx, rfl⟩ := Option.map_eq_some_iff.1 hv'
    obtain ⟨b, off, e, ha⟩ := hrd.addr (by omega)
    cases e
    exact ha.2 j x hx
   have hSt : St (wr.alloc (.cells #[B y0, B y1, B y2, B y3, B y4, B y5, B y6, B y7, B y8, B y9, B y10, B y11, B y12, B y13, B y14, B y15] 153)) wr.heap.size (key ks k) := by rw [hl16]; exact ⟨rfl, Blk.new _ _ _⟩
   have hT1 : Turn [] wr (wr.alloc (.cells #[B y0, B y1, B y2, B y3, B y4, B y5, B y6, B y7, B y8, B y9, B y10, B y11, B y12, B y13, B y14, B y15] 153)) := (Turn.refl _ _).alloc _
   have HK := Lib.hid (And.intro hrng (And.intro hSt (And.intro hT1 (And.intro hM (And.intro hJk hkl)))))
   clear hrng hSt hT1 hM hJk hkl hl16 hrd hk
   gi_wp2_with (first | (refine wpListIn_load_mid rfl 153 (.tmp 15) rfl K (k * 16) rfl [B y0, B y1, B y2, B y3, B y4, B y5, B y6, B y7, B y8, B y9, B y10, B y11, B y12, B y13, B y14, B y15] _ HK.out.1 Tryz.underlying153 rfl rfl ?_) | (gi_at_builtin; go_must (refine wpListIn_app_nil rfl (.tmp 19) base (by have := HK.out.2.2.2.1.2.2.1; simp; omega) (some ⟨wr.heap.size, 0, none⟩) 16 16 (key ks k) HK.out.2.1.rd (by omega) (by rw [HK.out.2.2.2.2.2]; omega) rfl rfl ?_); intro A1 n1 c1 w2 hi1 hG; have hn16 : n1 = 16 := hG.len.trans HK.out.2.2.2.2.2; subst hn16; have hT2 : Turn [] wr w2 := HK.out.2.2.1.trans (Turn.of_grown hG.grown) (fun x hx => by simp [Value.ownBlock] at hx); obtain ⟨fn, tmps, assign, body, hy, hR⟩ := HY.out k #[.int .i64 k, .slice A1 16 c1] w2 hlt (hJ k _ _ HK.out.2.2.2.2.1 hT2) (HK.out.2.2.2.1.turn hT2 (by simp) k) ⟨A1, c1, rfl, hG.own.rd, hG.own.addr_ge⟩; have HR := Lib.hid hR; clear hR hG))
   refine HR.out.mono ?_
   rintro e W' (⟨rfl, hJ', hM'⟩ | ⟨rfl, hJx'⟩)
   ·have HM2 := Lib.hid (And.intro hJ' hM')
    clear hJ' hM'
    gi_wp2
    go_roundw
    case rel => exact ⟨k + 1, by omega, by go_num, HM2.out.1, HM2.out.2⟩
    case measure => simp [intOf]; omega
   ·gi_wp2
    refine bodyPost_ret (results_none rfl _ _ _) rfl ?_
    exact ⟨⟨_, rfl⟩, .inr ⟨_, hlt, hJx'⟩⟩
  ·obtain rfl : k = R := by omega
   have hq : ¬ ((k : Int) < k) := by omega
   have HJ := Lib.hid hJk
   clear hJk hM hk hlt
   gi_wp2
   go_end0
   exact ⟨⟨_, rfl⟩, .inl HJ.out⟩
end Go.Proofs.YtgjnmpjimhbfgaaGreatDoor
