/-
  Contracts of audit.All and of its iterator.
-/
import Derived.Test.YtpccmcpeijmekaaDoorAud9
namespace Go.Proofs.YtpccmcpeijmekaaDoor
open Go.RowKit
attribute [local go_sem] Oper.semAt_some

theorem rdE_take (b : List UInt8) : rdE (b.take 52) = rdE b := by
  simp [rdE, word64, word32, word16, List.getD, List.getElem?_take]
theorem read_ln (A : Option Addr) (m c j q : Nat) (log : List UInt8) (w : World) (hr : Rd w A m c (log.drop (52 * j))) (hg : GoodLog log q) (hj : j < q) :
    Calls Tryd.prog 21 #[.slice A m c] w (ReadRes w (lnAt log j)) := by
  have h1 := hg.2 j hj
  have h2 := hg.1
  have h3 := hr.1
  have h4 := read_any A m c _ w hr (by rw [h3, List.length_drop]; omega) (by
    unfold lnAt at h1
    rw [List.getD, List.getElem?_take, if_pos (by omega)] at h1
    exact h1)
  have e : rdV (log.drop (52 * j)) = rdV (lnAt log j) := by unfold rdV lnAt; rw [rdE_take]
  unfold ReadRes at h4 ⊢
  rwa [e] at h4
theorem all_any (A : Option Addr) (m c : Nat) (w : World) : Calls Tryd.prog 14 #[.slice A m c] w fun e w' =>
    e = .returned (.func (.func 20) #[] #[.pointer (some ⟨w.heap.size, 0, none⟩)]) ∧ w.alloc (.cells #[.slice A m c] 24) = w' := by
  go_enter Tryd.func14, Tryd.ntmps14
  go_wp2
  go_ret
  exact ⟨rfl, rfl⟩
def allArg (log : List UInt8) (k : Nat) (args : Array Value) (_ : World) : Prop := args = #[.int .i64 (k : Int), rdV (lnAt log k)]

set_option maxHeartbeats 1000000 in
theorem all_iter (bx : Nat) (A : Option Addr) (m c q k : Nat) (log : List UInt8) (hg : GoodLog log q) (hq : q ≤ 1000) (hk : RightTo log q k) :
    Iter Tryd.prog 20 #[.pointer (some ⟨bx, 0, none⟩)] (allArg log) (lnMine bx A m c log) k [] := by
  intro l J Jx W hJ hJx hY h0 hM
  refine callsIn_of_wp Tryd.func20 rfl trivial ?_ rfl
  simp only [Tryd.ntmps20, List.size_toArray, List.length_cons, List.length_nil, Nat.reduceAdd, Nat.reduceSub, Array.replicate_succ, Array.replicate_zero, List.push_toArray, List.append_toArray, List.nil_append, List.cons_append]
  have hml := hM.2.1.1
  have hmq : m = q * 52 := by rw [hml]; exact hg.1
  have hC := check_at A m c q k log W hM.2.1 hg hq hk hM.2.2
  have c0 := hM.1.cell 0
  simp only [List.getElem?_toArray, List.getElem?_cons_zero] at c0
  have HG := Lib.hid (And.intro hg (And.intro hml (And.intro hmq (And.intro hC (And.intro hk (And.intro hM h0))))))
  have hmi : (m : Int) ≤ 52000 := by omega
  have hki : (k : Int) ≤ 1000 := by have := hk.1; omega
  clear hml hmq hM h0 hC
  gi_wp2_with (refine ⟨trivial, ?_⟩; gi_at_call 9; refine (callsIn_wide.2 HG.out.2.2.2.1).mono ?_; rintro e w1 ⟨rfl, hb⟩; have HB := Lib.hid hb; clear hb)
  gi_loopw [12] (fun i wr => ∃ j : Nat, j ≤ k ∧ i = .int .i64 j ∧ J j wr ∧ lnMine bx A m c log 0 wr) (fun i _ => k - (intOf i).toNat)
  case atStart => exact ⟨0, by omega, rfl, hJ 0 _ _ HG.out.2.2.2.2.2.2 (Turn.of_below [] HB.out), HG.out.2.2.2.2.2.1.1.below HB.out, HG.out.2.2.2.2.2.1.2.1.below HB.out, HG.out.2.2.2.2.2.1.2.2.below HB.out⟩
  case round =>
    obtain ⟨j, hj, rfl, hJk, hMk⟩ := hrel
    clear c0
    have c0 := hMk.1.cell 0
    simp only [List.getElem?_toArray, List.getElem?_cons_zero] at c0
    have hji : (j : Int) ≤ 1000 := by omega
    have hj0 : (0 : Int) ≤ j := by omega
    by_cases hlt : j < k
    · have hlti : (j : Int) < k := by omega
      have hjq : j < q := by have := HG.out.2.2.2.2.1.1; omega
      obtain ⟨A1, n1, c1, hn1, hrun1, hr1, _⟩ := hMk.2.1.cut_ex2 (k := 52 * j) (by have := HG.out.2.2.1; omega)
      rw [show ((52 * j : Nat) : Int) = 52 * (j : Int) by omega] at hrun1
      have HMk := Lib.hid (And.intro hMk (And.intro hJk (And.intro hr1 (And.intro hlt hjq))))
      clear hMk hJk hr1 hlt hj hn1 hjq
      gi_wp2_with (refine ⟨trivial, ?_⟩; gi_at_call 21; refine (callsIn_wide.2 (read_ln A1 n1 c1 j q log wr HMk.out.2.2.1 HG.out.1 HMk.out.2.2.2.2)).mono ?_; rintro e w2 ⟨rfl, hb3⟩; have X3 := Lib.hid hb3; clear hb3; obtain ⟨fn, tmps, assign, body, hy, hR⟩ := hY j #[.int .i64 (j : Int), rdV (lnAt log j)] w2 HMk.out.2.2.2.1 (hJ j _ _ HMk.out.2.1 (Turn.of_below [] X3.out)) ⟨HMk.out.1.1.below X3.out, HMk.out.1.2.1.below X3.out, HMk.out.1.2.2.below X3.out⟩ rfl; have HR := Lib.hid hR; clear hR)
      refine HR.out.mono ?_
      rintro e W' (⟨rfl, hJ', hM'⟩ | ⟨rfl, hJx'⟩)
      · have HJM := Lib.hid (And.intro hJ' hM')
        clear hJ' hM'
        gi_wp2
        go_roundw
        case rel => exact ⟨j + 1, HMk.out.2.2.2.1, by go_num, HJM.out.1, HJM.out.2⟩
        case measure => have := HMk.out.2.2.2.1; simp [intOf]; omega
      · gi_wp2
        refine bodyPost_ret (results_none rfl _ _ _) rfl ?_
        exact ⟨⟨_, rfl⟩, .inr ⟨j, HMk.out.2.2.2.1, hJx'⟩⟩
    · obtain rfl : j = k := by omega
      have hlti : ¬ ((j : Int) < j) := by omega
      have HJ := Lib.hid hJk
      clear hMk hJk
      gi_wp2
      go_end0
      exact ⟨⟨_, rfl⟩, .inl HJ.out⟩
end Go.Proofs.YtpccmcpeijmekaaDoor
