/-
  DER: 'May', and the reference's count.
-/
import Derived.Test.YtgkhhinjdojbhaaDer4
namespace Go.Proofs.Ytgkhhinjdojbhaa
open Go.RowKit

def Nd.may (n : Nd) : Bool := n.ok 16 && decide (n.size ≤ 1024)
theorem mayW_top (n : Nd) : (n.mayW 16 1024).1 = n.may := by
  have h := (n.mayW_spec 16 1024 (by omega)).1
  unfold Nd.may
  cases hm : (n.mayW 16 1024).1 with
  | true =>
    obtain ⟨h1, h2⟩ := h.1 hm
    rw [h1, decide_eq_true (by omega)]; rfl
  | false =>
    cases h1 : n.ok 16 with
    | false => rfl
    | true =>
      symm
      rw [Bool.true_and, decide_eq_false_iff_not]
      intro h2
      have := h.2 ⟨h1, by omega⟩
      rw [hm] at this; cases this
set_option maxRecDepth 100000 in
set_option maxHeartbeats 2000000 in
theorem mayTop_any (P : Nat → Prop) (Z : NF → Prop) (n : Nd) (f : NF) (w : World) (hN : NdR P Z w f n) (hP : ∀ b, P b → b < w.heap.size) :
    Calls Try.prog 12 #[f.val] w fun e w' => e = .returned (.bool n.may) ∧ Below w.heap.size w w' := by
  obtain ⟨X, hX⟩ : ∃ X, w.heap.size = X := ⟨_, rfl⟩
  obtain ⟨tag, A1, m1, c1, A2, m2, c2⟩ := f
  obtain ⟨wA, hwA⟩ : ∃ wA, (w.alloc (.cells #[.int .i64 tag, .slice A1 m1 c1, .slice A2 m2 c2] 25)).alloc (.cells #[.int .i64 1024] 3) = wA := ⟨_, rfl⟩
  have bA : Blk wA X 25 #[.int .i64 tag, .slice A1 m1 c1, .slice A2 m2 c2] := by rw [← hwA, ← hX]; exact (Blk.new _ _ _).alloc _
  have bL : Blk wA (X + 1) 3 #[.int .i64 1024] := by rw [← hwA, show X + 1 = (w.alloc (.cells #[.int .i64 tag, .slice A1 m1 c1, .slice A2 m2 c2] 25)).heap.size by rw [← hX]; simp]; exact Blk.new _ _ _
  have hbA : Below w.heap.size w wA := by rw [← hwA]; exact ((Below.refl _ _).alloc (Nat.le_refl _) _).alloc (by simp) _
  obtain ⟨g0, g1, g2⟩ : wA.cell? ⟨X, 0, none⟩ = some (.int .i64 tag) ∧ wA.cell? ⟨X, 1, none⟩ = some (.slice A1 m1 c1) ∧ wA.cell? ⟨X, 2, none⟩ = some (.slice A2 m2 c2) := by rw [bA.cell, bA.cell, bA.cell]; exact ⟨rfl, rfl, rfl⟩
  have hc := may_any P Z (X + 1) (fun b hb e => by have := hP b hb; omega) n ⟨tag, A1, m1, c1, A2, m2, c2⟩ 16 0 1024 wA (hN.bel hbA hP) (fun b hb => by have := hP b hb; have := hbA.size; omega) (by omega) (by omega) (by omega) (by omega) bL
  rw [mayW_top] at hc
  have HB := Lib.hid hbA
  clear hbA bA bL hN
  simp only [NF.val] at hc ⊢
  go_enter Try.func12, Try.ntmps12
  go_wp2_with fail
  try rw [hX]
  try rw [hwA]
  go_wp2_with fail
  refine hc.mono ?_
  rintro e w1 ⟨rfl, _, hT⟩
  have hb : Below w.heap.size w w1 := below_turn HB.out hT (fun t ht => by simp at ht; omega) HB.out.size
  have H1 := Lib.hid hb
  clear hb hT hc
  go_wp2_with fail
  go_ret
  exact ⟨rfl, H1.out⟩
end Go.Proofs.Ytgkhhinjdojbhaa
