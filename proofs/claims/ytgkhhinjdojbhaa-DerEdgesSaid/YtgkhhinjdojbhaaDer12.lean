/-
  DER: the reference's Write.
-/
import Derived.Test.YtgkhhinjdojbhaaDer11
namespace Go.Proofs.Ytgkhhinjdojbhaa
open Go.RowKit

set_option maxRecDepth 100000 in
set_option maxHeartbeats 2000000 in
theorem refWrite_any (P : Nat → Prop) (Z : NF → Prop) (n : Nd) (f : NF) (w : World) (hN : NdR P Z w f n) (hP : ∀ b, P b → b < w.heap.size) (hsz : n.may = true → n.enc.length ≤ 1000000) :
    Calls Try.prog 11 #[f.val] w fun e w' => ∃ A1 n1 c1, e = .returned (.tuple #[.slice A1 n1 c1, .bool n.wok]) ∧ Own w' w.heap.size (.slice A1 n1 c1) n.out ∧ Below w.heap.size w w' := by
  obtain ⟨X, hX⟩ : ∃ X, w.heap.size = X := ⟨_, rfl⟩
  obtain ⟨tag, A1, m1, c1, A2, m2, c2⟩ := f
  obtain ⟨wA, hwA⟩ : ∃ wA, w.alloc (.cells #[.int .i64 tag, .slice A1 m1 c1, .slice A2 m2 c2] 25) = wA := ⟨_, rfl⟩
  have bA : Blk wA X 25 #[.int .i64 tag, .slice A1 m1 c1, .slice A2 m2 c2] := by rw [← hwA, ← hX]; exact Blk.new _ _ _
  have hbA : Below w.heap.size w wA := by rw [← hwA]; exact (Below.refl _ _).alloc (Nat.le_refl _) _
  obtain ⟨g0, g1, g2⟩ : wA.cell? ⟨X, 0, none⟩ = some (.int .i64 tag) ∧ wA.cell? ⟨X, 1, none⟩ = some (.slice A1 m1 c1) ∧ wA.cell? ⟨X, 2, none⟩ = some (.slice A2 m2 c2) := by rw [bA.cell, bA.cell, bA.cell]; exact ⟨rfl, rfl, rfl⟩
  have hPA : ∀ b, P b → b < wA.heap.size := fun b hb => by have := hP b hb; have := hbA.size; omega
  have hNA := hN.bel hbA hP
  have hc := refMay_any P Z n ⟨tag, A1, m1, c1, A2, m2, c2⟩ wA hNA hPA
  obtain ⟨mv, hmv⟩ : ∃ mv, n.may = mv := ⟨_, rfl⟩
  rw [hmv] at hc
  have HB := Lib.hid (And.intro hbA (And.intro bA (And.intro hNA hPA)))
  have HM := Lib.hid hmv
  clear hbA bA hN hNA hPA hmv
  simp only [NF.val] at hc ⊢
  go_enter Try.func11, Try.ntmps11
  go_wp2_with fail
  try rw [hX]
  try rw [hwA]
  go_wp2_with fail
  refine hc.mono ?_
  rintro e w1 ⟨rfl, hb1⟩
  have H1 := Lib.hid (And.intro hb1 (HB.out.1.trans (hb1.mono HB.out.1.size)))
  obtain ⟨q0, q1, q2⟩ : w1.cell? ⟨X, 0, none⟩ = some (.int .i64 tag) ∧ w1.cell? ⟨X, 1, none⟩ = some (.slice A1 m1 c1) ∧ w1.cell? ⟨X, 2, none⟩ = some (.slice A2 m2 c2) := by rw [(HB.out.2.1.below hb1).cell, (HB.out.2.1.below hb1).cell, (HB.out.2.1.below hb1).cell]; exact ⟨rfl, rfl, rfl⟩
  clear hb1 hc
  cases mv with
  | false =>
    go_wp2_with fail
    go_ret2
    have e0 : n.wok = false := by unfold Nd.wok; rw [HM.out]; rfl
    exact ⟨none, 0, 0, by rw [e0]; rfl, by unfold Nd.out; rw [e0]; exact Own.nil _ _, by first | exact H1.out.2 | (rw [← hX]; exact H1.out.2)⟩
  | true =>
    have hc := put_any P Z n ⟨tag, A1, m1, c1, A2, m2, c2⟩ 16 w1 (HB.out.2.2.1.bel H1.out.1 HB.out.2.2.2) (fun b hb => by have := HB.out.2.2.2 b hb; have := H1.out.1.size; omega) (Nd.may_ok HM.out) (hsz HM.out)
    simp only [NF.val] at hc
    go_wp2_with fail
    refine hc.mono ?_
    rintro e w2 ⟨A3, n3, c3, rfl, ho, hb2⟩
    have hl3 := Lib.hid ho.len
    have H2 := Lib.hid (And.intro ho (H1.out.2.trans (hb2.mono H1.out.2.size)))
    clear ho hb2 hc
    have hn3 := hsz HM.out
    by_cases hbig : 65536 < n3
    · have t1 : (65536 : Int) < n3 := by omega
      have t1d : decide ((65536 : Int) < (n3 : Int)) = true := decide_eq_true t1
      have e0 := Lib.hid (show n.wok = false by unfold Nd.wok; rw [HM.out, decide_eq_false (by have := hl3.out; omega)]; rfl)
      go_wp2_with fail
      go_ret2
      exact ⟨none, 0, 0, by rw [e0.out]; rfl, by unfold Nd.out; rw [e0.out]; exact Own.nil _ _, by first | exact H2.out.2 | (rw [← hX]; exact H2.out.2)⟩
    · have t1 : ¬ (65536 : Int) < n3 := by omega
      have t1d : decide ((65536 : Int) < (n3 : Int)) = false := decide_eq_false t1
      have e0 := Lib.hid (show n.wok = true by unfold Nd.wok; rw [HM.out, decide_eq_true (by have := hl3.out; omega)]; rfl)
      go_wp2_with fail
      go_ret2
      exact ⟨A3, n3, c3, by rw [e0.out]; rfl, by unfold Nd.out; rw [e0.out]; exact H2.out.1.mono (by have := H1.out.2.size; omega), by first | exact H2.out.2 | (rw [← hX]; exact H2.out.2)⟩
end Go.Proofs.Ytgkhhinjdojbhaa
