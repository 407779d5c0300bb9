/-
  rpc.Bodies and its iterator.
-/
import Derived.Test.YtmanpfenmamflaaRpcB
import Derived.Test.YtmanpfenmamflaaRange
import Derived.OwnWalkIn
import Derived.RangeFuncBound
import Derived.RangeFuncCalls
import Derived.TacticsInMore
import Derived.LoopNIn
import Derived.LoopIn
namespace Go.Proofs.Ytmanpfenmamflaa
open Go.RowKit
attribute [local go_sem] Oper.semAt_some

/-- The place of the k-th frame. -/
def bAt (l : List UInt8) : Nat → Nat
  | 0 => 0
  | k + 1 => bAt l k + nxN (l.drop (bAt l k))
theorem nxN_le (l : List UInt8) : nxN l ≤ l.length := by
  unfold nxN
  split
  · omega
  · split
    · omega
    · split
      · omega
      · omega
theorem bAt_le (l : List UInt8) : ∀ k, bAt l k ≤ l.length
  | 0 => Nat.zero_le _
  | k + 1 => by
    show bAt l k + nxN (l.drop (bAt l k)) ≤ _
    have h1 := bAt_le l k
    have h2 := nxN_le (l.drop (bAt l k))
    rw [List.length_drop] at h2
    omega
/-- There are just q frames. -/
def Frames (l : List UInt8) (q : Nat) : Prop := (∀ k, k < q → nxK (l.drop (bAt l k)) = true ∧ nxN (l.drop (bAt l k)) ≠ 0) ∧ (nxK (l.drop (bAt l q)) = false ∨ nxN (l.drop (bAt l q)) = 0)
theorem frames_ex (l : List UInt8) : ∃ q, Frames l q ∧ q ≤ l.length := by
  have key : ∀ n k, l.length - bAt l k ≤ n → k ≤ bAt l k → (∀ j, j < k → nxK (l.drop (bAt l j)) = true ∧ nxN (l.drop (bAt l j)) ≠ 0) → ∃ q, Frames l q ∧ q ≤ l.length := by
    intro n
    induction n with
    | zero =>
      intro k hn hk hj
      refine ⟨k, ⟨hj, .inr ?_⟩, by have := bAt_le l k; omega⟩
      have := nxN_le (l.drop (bAt l k))
      rw [List.length_drop] at this
      omega
    | succ n ih =>
      intro k hn hk hj
      by_cases h : nxK (l.drop (bAt l k)) = true ∧ nxN (l.drop (bAt l k)) ≠ 0
      · have h1 : bAt l (k + 1) = bAt l k + nxN (l.drop (bAt l k)) := rfl
        refine ih (k + 1) (by omega) (by omega) (fun j hjk => ?_)
        rcases Nat.lt_or_ge j k with h' | h'
        · exact hj j h'
        · obtain rfl : j = k := by omega
          exact h
      · refine ⟨k, ⟨hj, ?_⟩, by have := bAt_le l k; omega⟩
        by_cases h' : nxK (l.drop (bAt l k)) = true
        · right; by_cases h2 : nxN (l.drop (bAt l k)) = 0
          · exact h2
          · exact absurd ⟨h', h2⟩ h
        · left; simpa using h'
  exact key _ 0 (Nat.le_refl _) (Nat.zero_le _) (fun j hj => by omega)
theorem bodies_any (A : Option Addr) (m c : Nat) (w : World) : Calls Try.prog 16 #[.slice A m c] w fun e w' =>
    e = .returned (.func (.func 37) #[] #[.pointer (some ⟨w.heap.size, 0, none⟩)]) ∧ w.alloc (.cells #[.slice A m c] 22) = w' := by
  go_enter Try.func16, Try.ntmps16
  go_wp2
  go_ret
  exact ⟨rfl, rfl⟩
def bodArg (l : List UInt8) (base k : Nat) (args : Array Value) (W : World) : Prop := ∃ A m c, args = #[.int .i64 (bAt l k : Int), .slice A m c] ∧ Own W base (.slice A m c) (nxB (l.drop (bAt l k)))
def bodMine (bx : Nat) (A : Option Addr) (m c : Nat) (l : List UInt8) (base : Nat) (_ : Nat) (W : World) : Prop := Blk W bx 22 #[.slice A m c] ∧ Rd W A m c l ∧ base ≤ W.heap.size ∧ bx < base ∧ ∀ ad, A = some ad → ad.block < base
theorem bodMine.turn {bx : Nat} {A : Option Addr} {m c : Nat} {l : List UInt8} {base k : Nat} {S : List Nat} {W W' : World} (h : bodMine bx A m c l base k W) (ht : Turn S W W') (hS : ∀ t ∈ S, base ≤ t) (k' : Nat) : bodMine bx A m c l base k' W' := by
  obtain ⟨h1, h2, h3, h4, h5⟩ := h
  exact ⟨h1.turn ht (fun hm => by have := hS _ hm; omega), h2.turn ht (fun ad had hm => by have := hS _ hm; have := h5 ad had; omega), Nat.le_trans h3 ht.size, h4, h5⟩
set_option maxRecDepth 100000 in
set_option maxHeartbeats 1000000 in
theorem bodies_iter (bx : Nat) (A : Option Addr) (m c q base : Nat) (l : List UInt8) (hq : Frames l q) (hl : l.length ≤ 1000000000) :
    Iter Try.prog 37 #[.pointer (some ⟨bx, 0, none⟩)] (bodArg l base) (bodMine bx A m c l base) q [] := by
  intro l' J Jx W hJ hJx hY h0 hM
  refine callsIn_of_wp Try.func37 rfl trivial ?_ rfl
  simp only [Try.ntmps37, List.size_toArray, List.length_cons, List.length_nil, Nat.reduceAdd, Nat.reduceSub, Array.replicate_succ, Array.replicate_zero, List.push_toArray, List.append_toArray, List.nil_append, List.cons_append]
  have HM := Lib.hid hM
  have HY := Lib.hid hY
  have HQ := Lib.hid (And.intro hq hl)
  have hJ' := Lib.hid hJ
  clear hM hY hq hl
  refine wpIn_wide.2 (wp_scope_straight (wpIn_wide (n := 3).1 ?_))
  gi_wp2
  refine wpIn_label ?_
  gi_wp2
  gi_loopw [3] (fun i wr => ∃ k : Nat, k ≤ q ∧ i = .int .i64 (bAt l k : Int) ∧ J k wr ∧ bodMine bx A m c l base k wr) (fun i _ => l.length - (intOf i).toNat)
  case atStart => exact ⟨0, by omega, rfl, h0, HM.out⟩
  case round =>
    obtain ⟨k, hk, rfl, hJk, hM⟩ := hrel
    clear h0
    have c0 := hM.1.cell 0
    simp only [List.getElem?_toArray, List.getElem?_cons_zero] at c0
    have hle := bAt_le l k
    have hml := hM.2.1.1
    obtain ⟨A1, n1, c1, hn1, hrun0, hr1, hA1⟩ := hM.2.1.cut_ex2 (k := bAt l k) (by omega)
    have hrun := hrun0 wr
    have hsl : (l.drop (bAt l k)).length ≤ 1000000000 := by rw [List.length_drop]; have := HQ.out.2; omega
    obtain ⟨N, hN⟩ : ∃ N, nxN (l.drop (bAt l k)) = N := ⟨_, rfl⟩
    obtain ⟨K, hK⟩ : ∃ K, nxK (l.drop (bAt l k)) = K := ⟨_, rfl⟩
    have hnx := next_any A1 n1 c1 _ wr hr1 hsl
    unfold NxRes at hnx
    rw [hN, hK] at hnx
    have hNle : bAt l k + N ≤ l.length := by have := bAt_le l (k + 1); have h1 : bAt l (k + 1) = bAt l k + nxN (l.drop (bAt l k)) := rfl; omega
    have hbk : bAt l (k + 1) = bAt l k + N := by rw [← hN]; rfl
    have hll := HQ.out.2
    have H1 := Lib.hid (And.intro hM (And.intro hJk (And.intro hnx hbk)))
    have h63 : ((bAt l k : Nat) : Int) + N ≤ 9223372036854775807 := by omega
    by_cases hkq : k < q
    · obtain ⟨f1, f2⟩ := HQ.out.1.1 k hkq
      rw [hK] at f1
      rw [hN] at f2
      subst f1
      have hN0 : ((N : Int) == 0) = false := by simpa using f2
      have hN0' : ¬ (N : Int) = 0 := by omega
      have HB := Lib.hid (And.intro hkq (And.intro hNle f2))
      clear hJk hM hrun0 hr1 hA1 hnx hN hK hNle hll hbk f2 hkq hk hsl hle hml hn1
      gi_wp2_with (refine ⟨trivial, ?_⟩; gi_at_call 14; refine (callsIn_wide.2 H1.out.2.2.1).mono ?_; rintro e w1 ⟨A2, m2, c2, rfl, hO2, hB2⟩; have H2 := Lib.hid (And.intro hO2 hB2); clear hO2 hB2; have hsz := H1.out.1.2.2.1; obtain ⟨fn, tmps, assign, body, hy, hR⟩ := HY.out k #[.int .i64 (bAt l k : Int), .slice A2 m2 c2] w1 HB.out.1 (hJ'.out k _ _ H1.out.2.1 (Turn.of_below [] H2.out.2)) (H1.out.1.turn (Turn.of_below [] H2.out.2) (by simp) k) ⟨A2, m2, c2, rfl, H2.out.1.mono hsz⟩; have HR := Lib.hid hR; clear hR hsz)
      refine HR.out.mono ?_
      rintro e W' (⟨rfl, hJ2, hM2⟩ | ⟨rfl, hJx2⟩)
      · have HJM := Lib.hid (And.intro hJ2 hM2)
        clear hJ2 hM2
        gi_wp2
        go_roundw
        case rel => exact ⟨k + 1, HB.out.1, by rw [H1.out.2.2.2]; go_num, HJM.out.1, HJM.out.2⟩
        case measure => have := HB.out.2; simp [intOf]; omega
      · gi_wp2
        rw [Exit.noGoto_ret]
        refine bodyPost_ret (results_none rfl _ _ _) rfl ?_
        exact ⟨⟨_, rfl⟩, .inr ⟨k, HB.out.1, hJx2⟩⟩
    · obtain rfl : k = q := by omega
      have hend := HQ.out.1.2
      rw [hK, hN] at hend
      have HE := Lib.hid hJk
      clear hJk hM hrun0 hr1 hA1 hnx hN hK hNle hll hbk hkq hk hsl hle hml hn1
      rcases hend with rfl | rfl
      · gi_wp2_with (refine ⟨trivial, ?_⟩; gi_at_call 14; refine (callsIn_wide.2 H1.out.2.2.1).mono ?_; rintro e w1 ⟨A2, m2, c2, rfl, hO2, hB2⟩; have H2 := Lib.hid (And.intro hO2 hB2); clear hO2 hB2)
        rw [Exit.noGoto_normal]
        go_end0
        exact ⟨⟨_, rfl⟩, .inl (hJ'.out _ _ _ HE.out (Turn.of_below [] H2.out.2))⟩
      · cases K
        · gi_wp2_with (refine ⟨trivial, ?_⟩; gi_at_call 14; refine (callsIn_wide.2 H1.out.2.2.1).mono ?_; rintro e w1 ⟨A2, m2, c2, rfl, hO2, hB2⟩; have H2 := Lib.hid (And.intro hO2 hB2); clear hO2 hB2)
          rw [Exit.noGoto_normal]
          go_end0
          exact ⟨⟨_, rfl⟩, .inl (hJ'.out _ _ _ HE.out (Turn.of_below [] H2.out.2))⟩
        · gi_wp2_with (refine ⟨trivial, ?_⟩; gi_at_call 14; refine (callsIn_wide.2 H1.out.2.2.1).mono ?_; rintro e w1 ⟨A2, m2, c2, rfl, hO2, hB2⟩; have H2 := Lib.hid (And.intro hO2 hB2); clear hO2 hB2)
          rw [Exit.noGoto_normal]
          go_end0
          exact ⟨⟨_, rfl⟩, .inl (hJ'.out _ _ _ HE.out (Turn.of_below [] H2.out.2))⟩
end Go.Proofs.Ytmanpfenmamflaa
