/-
  DER: the reference's May.
-/
import Derived.Test.YtgkhhinjdojbhaaDer6
namespace Go.Proofs.Ytgkhhinjdojbhaa
open Go.RowKit

theorem cnt_may (n : Nd) : decide (0 < n.cnt 16) = n.may := by
  unfold Nd.cnt Nd.may
  have := n.size_pos
  cases h : (n.ok 16 && decide (n.size ≤ 1024)) with
  | true => rw [if_pos rfl]; exact decide_eq_true (by omega)
  | false => rw [if_neg (by simp)]; rfl
set_option maxRecDepth 100000 in
set_option maxHeartbeats 2000000 in
theorem refMay_any (P : Nat → Prop) (Z : NF → Prop) (n : Nd) (f : NF) (w : World) (hN : NdR P Z w f n) (hP : ∀ b, P b → b < w.heap.size) :
    Calls Try.prog 13 #[f.val] w fun e w' => e = .returned (.bool n.may) ∧ Below w.heap.size w w' := by
  obtain ⟨X, hX⟩ : ∃ X, w.heap.size = X := ⟨_, rfl⟩
  obtain ⟨tag, A1, m1, c1, A2, m2, c2⟩ := f
  obtain ⟨wA, hwA⟩ : ∃ wA, w.alloc (.cells #[.int .i64 tag, .slice A1 m1 c1, .slice A2 m2 c2] 25) = wA := ⟨_, rfl⟩
  have bA : Blk wA X 25 #[.int .i64 tag, .slice A1 m1 c1, .slice A2 m2 c2] := by rw [← hwA, ← hX]; exact Blk.new _ _ _
  have hbA : Below w.heap.size w wA := by rw [← hwA]; exact (Below.refl _ _).alloc (Nat.le_refl _) _
  obtain ⟨g0, g1, g2⟩ : wA.cell? ⟨X, 0, none⟩ = some (.int .i64 tag) ∧ wA.cell? ⟨X, 1, none⟩ = some (.slice A1 m1 c1) ∧ wA.cell? ⟨X, 2, none⟩ = some (.slice A2 m2 c2) := by rw [bA.cell, bA.cell, bA.cell]; exact ⟨rfl, rfl, rfl⟩
  have hc := count_any P Z n ⟨tag, A1, m1, c1, A2, m2, c2⟩ 16 1 wA (hN.bel hbA hP) (fun b hb => by have := hP b hb; have := hbA.size; omega) (by omega) (by omega)
  have hm := cnt_may n
  obtain ⟨cv, hcv⟩ : ∃ cv, n.cnt 16 = cv := ⟨_, rfl⟩
  rw [hcv] at hc hm
  have HB := Lib.hid (And.intro hbA hm)
  clear hbA bA hN hcv hm
  simp only [NF.val] at hc ⊢
  go_enter Try.func13, Try.ntmps13
  go_wp2_with fail
  try rw [hX]
  try rw [hwA]
  go_wp2_with fail
  refine hc.mono ?_
  rintro e w1 ⟨rfl, hb⟩
  have H1 := Lib.hid (HB.out.1.trans (hb.mono HB.out.1.size))
  clear hb hc
  go_wp2_with fail
  go_ret
  exact ⟨by rw [← HB.out.2]; rfl, H1.out⟩
end Go.Proofs.Ytgkhhinjdojbhaa
