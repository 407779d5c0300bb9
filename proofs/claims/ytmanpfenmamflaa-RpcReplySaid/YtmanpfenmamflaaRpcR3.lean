/-
  The reference's fits and frame.
-/
import Derived.Test.YtmanpfenmamflaaRpcR1
import Derived.Test.YtmanpfenmamflaaRpc6
namespace Go.Proofs.Ytmanpfenmamflaa
open Go.RowKit

def inHalf (n : Int) : Bool := decide (0 ≤ n ∧ n ≤ 2147483647)
set_option maxHeartbeats 1000000 in
theorem fits_any (s : Sl) (l : List Int) (w : World) (h : IntsAt w w.heap.size s l) :
    Calls Try.prog 26 #[.slice s.A s.m s.c] w fun e w' => e = .returned (.bool (l.all inHalf)) ∧ w = w' := by
  have hml := h.1
  have hmc := h.2.1
  have hcc := h.2.2.1
  unfold maxLen at hcc
  obtain ⟨A, m, c⟩ := s
  simp only at hml hmc hcc h ⊢
  have H := Lib.hid (And.intro h hml)
  clear h hml
  obtain ⟨R, hR⟩ : ∃ R, l.all inHalf = R := ⟨_, rfl⟩
  rw [hR]
  go_enter Try.func26, Try.ntmps26
  go_wp2_with fail
  go_loopw [3] (fun kk wr => ∃ k : Nat, k ≤ m ∧ kk = .int .i64 (k : Int) ∧ wr = w ∧ (l.take k).all inHalf = true) (fun kk _ => m - (intOf kk).toNat)
  case atStart => exact ⟨0, by omega, rfl, rfl, by rw [List.take_zero]; rfl⟩
  case round =>
    obtain ⟨k, hk, rfl, rfl, hall⟩ := hrel
    by_cases hlt : k < m
    · have hlti : (k : Int) < m := by omega
      have hltd : decide ((k : Int) < m) = true := decide_eq_true hlti
      have hk0 : ¬ ((k : Int) < 0) := by omega
      obtain ⟨x, hx⟩ : ∃ x, l[k]? = some x := ⟨_, List.getElem?_eq_getElem (by have := H.out.2; omega)⟩
      have hcell : ∃ b off, A = some ⟨b, off, none⟩ ∧ wr.cell? ⟨b, off + k, none⟩ = some (.int .i64 x) := by
        rcases H.out.1.2.2.2 with h0 | ⟨b, off, hA, _, _, h4⟩
        · have : m = 0 := h0
          omega
        · exact ⟨b, off, hA, h4 k x hx⟩
      obtain ⟨b, off, rfl, ck⟩ := hcell
      have hsp : l = l.take k ++ x :: l.drop (k + 1) := by
        have h1 := (List.take_append_drop k l).symm
        rw [List.drop_eq_getElem_cons (by have := H.out.2; omega)] at h1
        rw [List.getElem?_eq_getElem (by have := H.out.2; omega)] at hx
        injection hx with hx
        rw [hx] at h1
        exact h1
      have HX := Lib.hid (And.intro hx (And.intro hall hsp))
      clear hx hall hsp
      by_cases hin : 0 ≤ x ∧ x ≤ 2147483647
      · have t0 : ¬ x < 0 := by omega
        have t1 : ¬ 2147483647 < x := by omega
        have td : decide (x < 0) = false := decide_eq_false t0
        have te : decide (2147483647 < x) = false := decide_eq_false t1
        have hih : inHalf x = true := decide_eq_true hin
        have HI := Lib.hid hih
        clear hin hih
        go_wp2_with fail
        go_roundw
        case measure => simp [intOf]; omega
        refine ⟨k + 1, by omega, by simp, ?_⟩
        rw [List.take_add_one, HX.out.1, Option.toList_some, List.all_append, HX.out.2.1]
        simp [HI.out]
      · have hfalse : l.all inHalf = false := by
          rw [HX.out.2.2, List.all_append, List.all_cons, show inHalf x = false from decide_eq_false hin]
          simp
        obtain rfl : R = false := hR.symm.trans hfalse
        clear hR
        rcases Classical.em (x < 0) with t0 | t0
        · have td : decide (x < 0) = true := decide_eq_true t0
          clear hin hfalse
          go_wp2_with fail
          go_ret
          exact ⟨rfl, rfl⟩
        · have t1 : 2147483647 < x := by omega
          have td : decide (x < 0) = false := decide_eq_false t0
          have te : decide (2147483647 < x) = true := decide_eq_true t1
          clear hin hfalse
          go_wp2_with fail
          go_ret
          exact ⟨rfl, rfl⟩
    · obtain rfl : k = m := by omega
      have hlti : ¬ (k : Int) < k := by omega
      have ht : l.all inHalf = true := by rw [List.take_of_length_le (by have := H.out.2; omega)] at hall; exact hall
      obtain rfl : R = true := hR.symm.trans ht
      clear hall ht hR
      go_wp2_with fail
      go_ret
      exact ⟨rfl, rfl⟩
set_option maxHeartbeats 1000000 in
theorem rframe_any (A : Option Addr) (m c : Nat) (l : List UInt8) (w : World) (h : Rd w A m c l) (hl : l.length ≤ 1000000000) :
    Calls Try.prog 29 #[.slice A m c] w (FrRes w (frameO (some l))) := by
  have hm := h.1
  have H := Lib.hid (And.intro h (And.intro hm hl))
  have hm63 : (m : Int) ≤ 1000000000 := by omega
  clear h hm
  by_cases hb : 262144 < m
  · have hbi : (262144 : Int) < m := by omega
    have hbd : decide ((262144 : Int) < m) = true := decide_eq_true hbi
    have hn : frameO (some l) = none := by show (some l).bind _ = _; rw [Option.bind_some, if_pos (by rw [← H.out.2.1]; exact hb)]
    rw [hn]
    go_enter Try.func29, Try.ntmps29
    go_wp2_with fail
    go_ret2
    exact ⟨Below.refl _ _, .inl ⟨rfl, rfl⟩⟩
  · have hbi : ¬ (262144 : Int) < m := by omega
    have hbd : decide ((262144 : Int) < m) = false := decide_eq_false hbi
    have hn : frameO (some l) = some (num m 4 ++ l) := by show (some l).bind _ = _; rw [Option.bind_some, if_neg (by rw [← H.out.2.1]; exact hb), ← H.out.2.1]
    rw [hn]
    clear hn
    go_enter Try.func29, Try.ntmps29
    go_wp2_with fail
    refine (rnum_any m 4 w (by omega) (.inr (.inr rfl))).mono ?_
    rintro e w1 ⟨A1, n1, c1, rfl, hO1, hB1⟩
    have H1 := Lib.hid (And.intro hO1 hB1)
    clear hO1 hB1
    go_wp2_with (at_builtin; go_must (refine wp_app2 (.tmp 9) (.tmp 10) w.heap.size (.slice A1 n1 c1) _ H1.out.1 H1.out.2.size A m c l (H.out.1.below H1.out.2) (by rw [num_len _ _ (by omega)]; have := H.out.2.2; omega) rfl rfl rfl rfl ?_); intro A2 n2 c2 w2 hi2 hG; have H2 := Lib.hid hG; clear hG)
    go_ret2
    exact ⟨H1.out.2.trans H2.out.below, .inr ⟨_, rfl, A2, n2, c2, rfl, H2.out.own⟩⟩
end Go.Proofs.Ytmanpfenmamflaa
