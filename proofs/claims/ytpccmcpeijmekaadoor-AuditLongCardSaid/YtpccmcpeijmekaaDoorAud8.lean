/-
  Contracts of audit.lines and of its iterator.
-/
import Derived.Test.YtpccmcpeijmekaaDoorAud7
import Derived.Test.YtpccmcpeijmekaaDoorRange
import Derived.RangeFuncBound
import Derived.RangeFuncCalls
import Derived.OwnWalkIn
import Derived.TacticsInMore
import Derived.LoopNIn
import Derived.LoopIn
namespace Go.Proofs.YtpccmcpeijmekaaDoor
open Go.RowKit
attribute [local go_sem] Oper.semAt_some

theorem rdE_ok (b : List UInt8) (ht : (b.getD 4 0).toNat < 128) : (rdE b).ok :=
  ⟨word64_top b 4 ht, (word16 b 12).toNat_lt, (word32 b 14).toNat_lt, (word16 b 18).toNat_lt⟩
/-- What ought to stand at place i. -/
def wantAt (log : List UInt8) (i : Nat) : List UInt8 := aline (rof 3) (lastHash (log.take (52 * i))) i (rdE (lnAt log i))
theorem aline3_len (ahead : List UInt8) (seq : Nat) (e : Ent) (ha : ahead.length ≤ 900) : (aline (rof 3) ahead seq e).length = 52 := aline_len (H := rof 3) (fun l hl => rof_len 3 (by decide) l (by omega)) ahead seq e ha
theorem wantAt_len (log : List UInt8) (i : Nat) : (wantAt log i).length = 52 := aline3_len _ _ _ (by rw [lastHash_len]; omega)
/-- Whole lines, none of a time below zero. -/
def GoodLog (log : List UInt8) (q : Nat) : Prop := log.length = q * 52 ∧ ∀ i, i < q → ((lnAt log i).getD 4 0).toNat < 128
theorem At.notloop {w : World} {b off : Nat} {l : List UInt8} (h : At w b off l) (hl : 0 < l.length) {g : Nat} {r : Loop} (hr : w.heap[g]? = some (.loop r)) : b ≠ g := by
  rintro rfl
  have := h.cell hl
  unfold World.cell? at this
  rw [hr] at this
  simp at this
theorem Rd.loopTurn {w w' : World} {A : Option Addr} {m c g : Nat} {l : List UInt8} (h : Rd w A m c l) {r : Loop} (hr : w.heap[g]? = some (.loop r)) (ht : Turn [g] w w') : Rd w' A m c l := by
  obtain ⟨h1, h2, h3, h4 | ⟨b, off, rfl, h4⟩⟩ := h
  · exact ⟨h1, h2, h3, .inl h4⟩
  · refine ⟨h1, h2, h3, .inr ⟨b, off, rfl, ?_⟩⟩
    rcases Nat.eq_zero_or_pos l.length with h0 | h0
    · obtain rfl := List.length_eq_zero_iff.1 h0
      exact ⟨Nat.lt_of_lt_of_le h4.1 ht.size, by simp⟩
    · exact h4.keep ht.size (ht.block b h4.1 (by simpa using h4.notloop h0 hr))
theorem line_rd (A : Option Addr) (m c : Nat) (ahead : List UInt8) (seq : Nat) (b : List UInt8) (w : World) (hr : Rd w A m c ahead) (hm : m ≤ 1000) (hs : seq < 4294967296) (ht : (b.getD 4 0).toNat < 128) (hK : KAt w) :
    Calls Tryd.prog 16 #[.slice A m c, .int .i64 (seq : Int), rdV b] w (RowRes w (aline (rof 3) ahead seq (rdE b))) :=
  line_any A m c ahead seq _ (rdE b) w hr hm hs (rdE_ok b ht) hK
theorem lines_any (A : Option Addr) (m c : Nat) (w : World) : Calls Tryd.prog 18 #[.slice A m c] w fun e w' =>
    e = .returned (.func (.func 29) #[] #[.pointer (some ⟨w.heap.size, 0, none⟩)]) ∧ w.alloc (.cells #[.slice A m c] 24) = w' := by
  go_enter Tryd.func18, Tryd.ntmps18
  go_wp2
  go_ret
  exact ⟨rfl, rfl⟩
def lnArg (log : List UInt8) (k : Nat) (args : Array Value) (W : World) : Prop := ∃ A c A' n' c', args = #[.slice A 52 c, .slice A' n' c'] ∧ Rd W A 52 c (lnAt log k) ∧ Rd W A' n' c' (wantAt log k)
def lnMine (bx : Nat) (A : Option Addr) (m c : Nat) (log : List UInt8) (_ : Nat) (W : World) : Prop := Blk W bx 24 #[.slice A m c] ∧ Rd W A m c log ∧ KAt W

set_option maxHeartbeats 1000000 in
theorem lines_iter (bx : Nat) (A : Option Addr) (m c q : Nat) (log : List UInt8) (hg : GoodLog log q) (hq : q ≤ 1000) :
    Iter Tryd.prog 29 #[.pointer (some ⟨bx, 0, none⟩)] (lnArg log) (lnMine bx A m c log) q [] := by
  intro l J Jx W hJ hJx hY h0 hM
  refine callsIn_of_wp Tryd.func29 rfl trivial ?_ rfl
  simp only [Tryd.ntmps29, List.size_toArray, List.length_cons, List.length_nil, Nat.reduceAdd, Nat.reduceSub, Array.replicate_succ, Array.replicate_zero, List.push_toArray, List.append_toArray, List.nil_append, List.cons_append]
  have hml := hM.2.1.1
  have hmq : m = q * 52 := by rw [hml]; exact hg.1
  have HG := Lib.hid (And.intro hg (And.intro hml hmq))
  have hmi : (m : Int) ≤ 52000 := by omega
  clear hml hmq
  gi_wp2
  gi_loopw [3] (fun i wr => ∃ k : Nat, k ≤ q ∧ i = .int .i64 k ∧ J k wr ∧ lnMine bx A m c log 0 wr) (fun i _ => q - (intOf i).toNat)
  case atStart => exact ⟨0, by omega, rfl, h0, hM⟩
  case round =>
    obtain ⟨k, hk, rfl, hJk, hMk⟩ := hrel
    clear hM h0
    have c0 := hMk.1.cell 0
    simp only [List.getElem?_toArray, List.getElem?_cons_zero] at c0
    have hki : (k : Int) ≤ 1000 := by omega
    have hk0 : (0 : Int) ≤ k := by omega
    by_cases hlt : k < q
    · have htst : 52 * ((k : Int) + 1) ≤ m := by have := HG.out.2.2; omega
      obtain ⟨A1, c1, hrun1, hr1⟩ := hMk.2.1.cut_mid (k := 52 * k) (j := 52 * (k + 1)) (d := 52) (by have := HG.out.2.2; omega) (by omega)
      rw [show ((52 * k : Nat) : Int) = 52 * (k : Int) by omega, show ((52 * (k + 1) : Nat) : Int) = 52 * ((k : Int) + 1) by omega] at hrun1
      have hcap := hMk.2.1.2.1
      have hrun2 := slice_to A m c (52 * k) hMk.2.1.spot (by have := HG.out.2.2; omega)
      rw [show ((52 * k : Nat) : Int) = 52 * (k : Int) by omega] at hrun2
      have hfr := hMk.2.1.front (k := 52 * k) (by have := HG.out.2.2; omega)
      have htm := HG.out.1.2 k hlt
      have HMk := Lib.hid (And.intro hMk (And.intro hJk (And.intro hr1 (And.intro hfr (And.intro htm (And.intro hlt hk))))))
      clear hMk hJk hr1 hfr hcap htm hlt hk
      gi_wp2_with (first
        | (refine ⟨trivial, ?_⟩; gi_at_call 11; refine (callsIn_wide.2 (head_any A (52 * k) c (log.take (52 * k)) wr HMk.out.2.2.2.1 (by omega))).mono ?_; rintro e w1 ⟨A2, n2, c2, rfl, hO2, hb2⟩; have X2 := Lib.hid (And.intro hO2 hb2); clear hO2 hb2)
        | (refine ⟨trivial, ?_⟩; gi_at_call 21; refine (callsIn_wide.2 (read_any A1 52 c1 (lnAt log k) w1 (HMk.out.2.2.1.below X2.out.2) (by omega) HMk.out.2.2.2.2.1)).mono ?_; rintro e w2 ⟨rfl, hb3⟩; have X3 := Lib.hid (And.intro hb3 (Old.trans X2.out.2 hb3)); clear hb3)
        | (refine ⟨trivial, ?_⟩; gi_at_call 16; refine (callsIn_wide.2 (line_rd A2 n2 c2 (lastHash (log.take (52 * k))) k (lnAt log k) w2 (X2.out.1.rd.below X3.out.1) (by have := X2.out.1.len; rw [lastHash_len] at this; omega) (by omega) HMk.out.2.2.2.2.1 (HMk.out.1.2.2.below X3.out.2))).mono ?_; rintro e w3 ⟨A4, n4, c4, rfl, hO4, hb4⟩; have X4 := Lib.hid (And.intro hO4 (Old.trans X3.out.2 hb4)); clear hO4 hb4; obtain ⟨fn, tmps, assign, body, hy, hR⟩ := hY k #[.slice A1 52 c1, .slice A4 n4 c4] w3 HMk.out.2.2.2.2.2.1 (hJ k _ _ HMk.out.2.1 (Turn.of_below [] X4.out.2)) ⟨HMk.out.1.1.below X4.out.2, HMk.out.1.2.1.below X4.out.2, HMk.out.1.2.2.below X4.out.2⟩ ⟨A1, c1, A4, n4, c4, rfl, HMk.out.2.2.1.below X4.out.2, X4.out.1.rd⟩; have HR := Lib.hid hR; clear hR))
      refine HR.out.mono ?_
      rintro e W' (⟨rfl, hJ', hM'⟩ | ⟨rfl, hJx'⟩)
      · have HJM := Lib.hid (And.intro hJ' hM')
        clear hJ' hM'
        gi_wp2
        go_roundw
        case rel => exact ⟨k + 1, HMk.out.2.2.2.2.2.1, by go_num, HJM.out.1, HJM.out.2⟩
        case measure => have := HMk.out.2.2.2.2.2.1; simp [intOf]; omega
      · gi_wp2
        refine bodyPost_ret (results_none rfl _ _ _) rfl ?_
        exact ⟨⟨_, rfl⟩, .inr ⟨k, HMk.out.2.2.2.2.2.1, hJx'⟩⟩
    · obtain rfl : k = q := by omega
      have htst : ¬ (52 * ((k : Int) + 1) ≤ m) := by have := HG.out.2.2; omega
      have HJ := Lib.hid hJk
      clear hMk hJk
      gi_wp2
      go_end0
      exact ⟨⟨_, rfl⟩, .inl HJ.out⟩
end Go.Proofs.YtpccmcpeijmekaaDoor
