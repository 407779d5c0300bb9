/-
  Contracts of hashes.Chunks and of its iterator.
-/
import Derived.Test.YtgjnmpjimhbfgaaGreatDoorZzWBe
import Derived.Test.YtgjnmpjimhbfgaaGreatDoorZzRangeH
import Derived.RangeFuncBound
import Derived.RangeFuncCalls
import Derived.OwnWalkIn
import Derived.TacticsInMore
import Derived.LoopNIn
import Derived.LoopIn
namespace Go.Proofs.YtgjnmpjimhbfgaaGreatDoor
set_option maxRecDepth 100000
open Go.RowKit
attribute [local go_sem] Oper.semAt_some
def chunk (l : List UInt8) (n k : Nat) : List UInt8 := (l.drop (k * n)).take n
def chunks (l : List UInt8) (n : Nat) : Nat := (l.length + n - 1) / n
theorem chunks_lt (l : List UInt8) (n k : Nat) (hn : 1 ≤ n) : k < chunks l n ↔ k * n < l.length := by
 unfold chunks
 rw [Nat.lt_div_iff_mul_lt (by omega)]
 omega
theorem chunk_len (l : List UInt8) (n k : Nat) : (chunk l n k).length = min n (l.length - k * n) := by simp [chunk]
theorem chunksOf_any (A : Option Addr) (m c : Nat) (n : Int) (w : World) : Calls Tryz.prog 131 #[.slice A m c, .int .i64 n] w fun e w' =>
  e = .returned (.func (.func 153) #[] #[.pointer (some ⟨w.heap.size + 1, 0, none⟩), .pointer (some ⟨w.heap.size, 0, none⟩)]) ∧ (w.alloc (.cells #[.slice A m c] 32)).alloc (.cells #[.int .i64 n] 3) = w' := by
 go_enter Tryz.func131, Tryz.ntmps131
 go_wp2
 go_ret
 exact ⟨rfl, rfl⟩
def chunkArg (l : List UInt8) (n base : Nat) (k : Nat) (args : Array Value) (W : World) : Prop :=
 ∃ g c, args = #[.int .i64 k, .slice (some ⟨g, 0, none⟩) (chunk l n k).length c] ∧ Own W base (.slice (some ⟨g, 0, none⟩) (chunk l n k).length c) (chunk l n k)
def chunkMine (bn bb src : Nat) (l : List UInt8) (n base : Nat) (k : Nat) (W : World) : Prop :=
 Blk W bn 3 #[.int .i64 n] ∧ base ≤ W.heap.size ∧ ∃ A m c, Blk W bb 32 #[.slice A m c] ∧ Rd W A m c (l.drop (k * n)) ∧ ∀ ad, A = some ad → ad.block = src
set_option maxHeartbeats 1000000 in
theorem chunks_iter (bn bb src base : Nat) (hsrc : src ≠ bb) (l : List UInt8) (n : Nat) (hn : 1 ≤ n) (hn2 : n ≤ 1000000000) (hl : l.length ≤ 140737488355328) :
  Iter Tryz.prog 153 #[.pointer (some ⟨bn, 0, none⟩), .pointer (some ⟨bb, 0, none⟩)] (chunkArg l n base) (chunkMine bn bb src l n base) (chunks l n) [bb] := by
 intro l' J Jx W hJ hJx hY h0 hM
 refine callsIn_of_wp Tryz.func153 rfl trivial ?_ rfl
 simp only [Tryz.ntmps153, List.size_toArray, List.length_cons, List.length_nil, Nat.reduceAdd, Nat.reduceSub, Array.replicate_succ, Array.replicate_zero, List.push_toArray, List.append_toArray, List.nil_append, List.cons_append]
 have hnc := hM.1.cell 0
 simp at hnc
 have hn1 : ¬ ((n : Int) < 1) := by omega
 have HM := Lib.hid hM
 clear hM
 gi_wp2
 gi_loopw [4] (fun i wr => ∃ k : Nat, k ≤ chunks l n ∧ i = .int .i64 k ∧ J k wr ∧ chunkMine bn bb src l n base k wr) (fun i _ => chunks l n - (intOf i).toNat)
 case atStart => exact ⟨0, by omega, rfl, h0, HM.out⟩
 case round =>
  obtain ⟨k, hk, rfl, hJk, hM1, hMb, A, m, c, hM2, hM3, hM4⟩ := hrel
  clear h0 hnc
  have hnc := hM1.cell 0
  have hbc := hM2.cell 0
  simp at hnc hbc
  have hml := hM3.1
  rw [List.length_drop] at hml
  by_cases hlt : k < chunks l n
  ·have hkn := (chunks_lt l n k hn).1 hlt
   have hm0 : 0 < m := by omega
   obtain ⟨b, off, rfl, hat⟩ := hM3.addr hm0
   have hmc := hM3.2.1
   have hmi : (0 : Int) < m := by omega
   have hmm : m ≤ 140737488355328 := by omega
   have hcut := Lib.hid True.intro
   have hat' := hat
   have hkb : (k : Int) ≤ 140737488355328 := by have := Nat.le_mul_of_pos_right k hn; omega
   have hmm : m ≤ 140737488355328 := by omega
   have hch : chunk l n k = (l.drop (k * n)).take (min n m) := by
    unfold chunk
    rcases Nat.le_total n m with h | h
    ·rw [Nat.min_eq_left h]
    ·rw [Nat.min_eq_right h, List.take_of_length_le (by rw [List.length_drop]; omega), List.take_of_length_le (by rw [List.length_drop]; omega)]
   have hcl : (chunk l n k).length = min n m := by rw [hch, List.length_take, List.length_drop]; omega
   have hdr : (l.drop (k * n)).drop (min n m) = l.drop ((k + 1) * n) := by
    rw [List.drop_drop, Nat.add_mul, Nat.one_mul]
    rcases Nat.le_total n m with h | h
    ·rw [Nat.min_eq_left h]
    ·rw [Nat.min_eq_right h, List.drop_eq_nil_of_le (by omega), List.drop_eq_nil_of_le (by omega)]
   have hC := Lib.hid (clone_any b off (min n m) c (chunk l n k) wr (by rw [hch]; exact hat.take _) hcl.symm (by omega))
   have HA := Lib.hid (And.intro hM1 (And.intro hMb (And.intro hM2 (And.intro hM3 (And.intro hM4 (And.intro hJk (And.intro hcl (And.intro hlt (And.intro hdr hml)))))))))
   clear hM1 hMb hM2 hM3 hM4 hJk hat hch hcl hlt hkn hml hk hat' hdr
   rcases Nat.lt_or_ge m n with hmn | hmn
   ·have hmi2 : (m : Int) < n := by omega
    have hq : min n m = m := by omega
    rw [hq] at hC HA
    have hqc : (m : Int) ≤ c := by omega
    have hqm : (m : Int) ≤ m := by omega
    have hq0 : 0 < m := by omega
    clear hmn hq
    gi_wp2_with (refine ⟨trivial, ?_⟩; gi_at_call 43; refine (callsIn_wide.2 hC.out).mono ?_; rintro e w1 ⟨g, c1, rfl, ho, hb⟩; obtain ⟨hM1, hMb, hM2, hM3, hM4, hJk, hcl, hlt, hdr, hml⟩ := HA.out; have hT1 := Turn.of_below [bb] hb; obtain ⟨fn, tmps, assign, body, hy, hR⟩ := hY k #[.int .i64 k, .slice (some ⟨g, 0, none⟩) m c1] w1 hlt (hJ k _ _ hJk hT1) ⟨hM1.below hb, Nat.le_trans hMb hb.size, _, _, _, hM2.below hb, hM3.below hb, hM4⟩ ⟨g, c1, by rw [hcl], by rw [hcl]; exact ho.mono hMb⟩; have HR := Lib.hid hR; have Hlt := Lib.hid (And.intro hlt (And.intro hdr hml)); clear hM1 hMb hM2 hM3 hM4 hJk hcl hlt hR hT1 ho hb hdr hml)
    refine HR.out.mono ?_
    rintro e W' (⟨rfl, hJ', hM1, hMb, A', m', c', hM2, hM3, hM4⟩ | ⟨rfl, hJx'⟩)
    ·have hml' := hM3.1
     rw [List.length_drop] at hml'
     have hmm' : m = m' := by have := Hlt.out.2.2; omega
     subst hmm'
     have hrd := hM3.cut (k := m) (by omega)
     have hmc' := hM3.2.1
     have hqc' : (m : Int) ≤ c' := by omega
     rw [Hlt.out.2.1] at hrd
     have hb1 := hM2.cell 0
     have hbf := hM2.frozen 0
     simp at hb1
     obtain ⟨b', off', rfl, hat'⟩ := hM3.addr hm0
     simp only [Option.map_some, Addr.add_mid, Nat.sub_self] at hrd
     have Hrd := Lib.hid hrd
     have HM := Lib.hid (And.intro hM1 (And.intro hMb (And.intro hM2 (And.intro hM4 hJ'))))
     clear hrd hM1 hMb hM2 hM3 hM4 hJ' hat' hml'
     gi_wp2
     go_roundw
     case rel =>
      obtain ⟨hM1, hMb, hM2, hM4, hJ'⟩ := HM.out
      have hT := (Turn.refl [bb] W').setCell (p := ⟨bb, 0, none⟩) (.inl (by simp)) (.slice (if c' = m then some ⟨b', off', none⟩ else some ⟨b', off' + m, none⟩) 0 (c' - m))
      have hsb : b' = src := hM4 _ rfl
      have hne : b' ≠ bb := by rw [hsb]; exact hsrc
      refine ⟨k + 1, by have := Hlt.out.1; omega, by go_num, hJ _ _ _ hJ' hT, hM1.turn hT ?_, by simpa using hMb, _, _, _, hM2.set_ 0 _, Hrd.out.turn hT ?_, ?_⟩
      ·intro h; simp at h; exact hM1.ne_ hM2 (by decide) h
      ·intro ad had
       split at had <;> (cases had; simpa using hne)
      ·intro ad had
       split at had <;> (cases had; exact hsb)
     case measure => have := Hlt.out.1; simp [intOf]; omega
    ·gi_wp2
     refine bodyPost_ret (results_none rfl _ _ _) rfl ?_
     exact ⟨⟨_, rfl⟩, .inr ⟨_, Hlt.out.1, hJx'⟩⟩
   ·have hmi2 : ¬ ((m : Int) < n) := by omega
    have hq : min n m = n := by omega
    rw [hq] at hC HA
    have hqc : (n : Int) ≤ c := by omega
    have hqm : (n : Int) ≤ m := by omega
    have hq0 : 0 < n := by omega
    clear hmn hq
    gi_wp2_with (refine ⟨trivial, ?_⟩; gi_at_call 43; refine (callsIn_wide.2 hC.out).mono ?_; rintro e w1 ⟨g, c1, rfl, ho, hb⟩; obtain ⟨hM1, hMb, hM2, hM3, hM4, hJk, hcl, hlt, hdr, hml⟩ := HA.out; have hT1 := Turn.of_below [bb] hb; obtain ⟨fn, tmps, assign, body, hy, hR⟩ := hY k #[.int .i64 k, .slice (some ⟨g, 0, none⟩) n c1] w1 hlt (hJ k _ _ hJk hT1) ⟨hM1.below hb, Nat.le_trans hMb hb.size, _, _, _, hM2.below hb, hM3.below hb, hM4⟩ ⟨g, c1, by rw [hcl], by rw [hcl]; exact ho.mono hMb⟩; have HR := Lib.hid hR; have Hlt := Lib.hid (And.intro hlt (And.intro hdr hml)); clear hM1 hMb hM2 hM3 hM4 hJk hcl hlt hR hT1 ho hb hdr hml)
    refine HR.out.mono ?_
    rintro e W' (⟨rfl, hJ', hM1, hMb, A', m', c', hM2, hM3, hM4⟩ | ⟨rfl, hJx'⟩)
    ·have hml' := hM3.1
     rw [List.length_drop] at hml'
     have hmm' : m = m' := by have := Hlt.out.2.2; omega
     subst hmm'
     have hrd := hM3.cut (k := n) (by omega)
     have hmc' := hM3.2.1
     have hqc' : (n : Int) ≤ c' := by omega
     rw [Hlt.out.2.1] at hrd
     have hb1 := hM2.cell 0
     have hbf := hM2.frozen 0
     simp at hb1
     obtain ⟨b', off', rfl, hat'⟩ := hM3.addr hm0
     simp only [Option.map_some, Addr.add_mid] at hrd
     have Hrd := Lib.hid hrd
     have HM := Lib.hid (And.intro hM1 (And.intro hMb (And.intro hM2 (And.intro hM4 hJ'))))
     clear hrd hM1 hMb hM2 hM3 hM4 hJ' hat' hml'
     gi_wp2
     go_roundw
     case rel =>
      obtain ⟨hM1, hMb, hM2, hM4, hJ'⟩ := HM.out
      have hT := (Turn.refl [bb] W').setCell (p := ⟨bb, 0, none⟩) (.inl (by simp)) (.slice (if c' = n then some ⟨b', off', none⟩ else some ⟨b', off' + n, none⟩) (m - n) (c' - n))
      have hsb : b' = src := hM4 _ rfl
      have hne : b' ≠ bb := by rw [hsb]; exact hsrc
      refine ⟨k + 1, by have := Hlt.out.1; omega, by go_num, hJ _ _ _ hJ' hT, hM1.turn hT ?_, by simpa using hMb, _, _, _, hM2.set_ 0 _, Hrd.out.turn hT ?_, ?_⟩
      ·intro h; simp at h; exact hM1.ne_ hM2 (by decide) h
      ·intro ad had
       split at had <;> (cases had; simpa using hne)
      ·intro ad had
       split at had <;> (cases had; exact hsb)
     case measure => have := Hlt.out.1; simp [intOf]; omega
    ·gi_wp2
     refine bodyPost_ret (results_none rfl _ _ _) rfl ?_
     exact ⟨⟨_, rfl⟩, .inr ⟨_, Hlt.out.1, hJx'⟩⟩
  ·have hnk : ¬ (k * n < l.length) := fun h => hlt ((chunks_lt l n k hn).2 h)
   have hm0 : m = 0 := by omega
   subst hm0
   obtain rfl : k = chunks l n := by omega
   have HJ := Lib.hid hJk
   clear hJk hM3 hM4 hM1 hM2 hml hk hlt
   gi_wp2
   go_end0
   exact ⟨⟨_, rfl⟩, .inl HJ.out⟩
end Go.Proofs.YtgjnmpjimhbfgaaGreatDoor
