/-
  GHASH: the program's and the reference's are the same bytes.
-/
import Derived.Test.YtgkkafkdgmdihaaAesU
namespace Go.Proofs.Ytgkkafkdgmdihaa
open Go.RowKit

theorem fill_take (r : List UInt8) (h : r ≠ []) : (fillL r).take 16 = splice (zs 16) 0 (r.take 16) := by
  have hl : 0 < r.length := List.length_pos_iff.2 h
  unfold splice fillL
  rw [List.take_zero, List.nil_append, Nat.zero_add]
  by_cases h16 : 16 ≤ r.length
  · rw [List.take_append_of_le_length h16, List.length_take, Nat.min_eq_left h16]
    have : (zs 16).drop 16 = [] := by decide
    rw [this, List.append_nil]
  · have hp : padN r.length = 16 - r.length := by unfold padN; omega
    rw [hp, List.take_of_length_le (by rw [List.length_append, zs_len]; omega), List.take_of_length_le (by omega)]
    unfold zs
    rw [List.drop_replicate]
theorem fill_drop (r : List UInt8) (h : r ≠ []) : (fillL r).drop 16 = fillL (r.drop 16) := by
  have hl : 0 < r.length := List.length_pos_iff.2 h
  unfold fillL
  by_cases h16 : 16 ≤ r.length
  · rw [List.drop_append_of_le_length h16, List.length_drop]
    have : padN (r.length - 16) = padN r.length := by unfold padN; omega
    rw [this]
  · have hp : padN r.length = 16 - r.length := by unfold padN; omega
    rw [hp, List.drop_eq_nil_of_le (by rw [List.length_append, zs_len]; omega), List.drop_eq_nil_of_le (by omega)]
    rfl
theorem splice_len (r : List UInt8) : (splice (zs 16) 0 (r.take 16)).length = 16 := by
  rw [length_splice _ _ _ (by rw [List.length_take, zs_len]; omega), zs_len]
theorem gh_rG (hh hl : UInt64) (n : Nat) : ∀ (r : List UInt8) (fuel : Nat) (yh yl : UInt64), (fillL r).length = 16 * n → r.length ≤ fuel →
    wr16 (ghS hh hl fuel r (yh, yl)).1 (ghS hh hl fuel r (yh, yl)).2 = rG (wr16 hh hl) n (fillL r) (wr16 yh yl) := by
  induction n with
  | zero =>
    intro r fuel yh yl hf _
    have hr : r = [] := by
      unfold fillL at hf
      rw [List.length_append] at hf
      exact List.length_eq_zero_iff.1 (by omega)
    subst hr
    cases fuel <;> rfl
  | succ n ih =>
    intro r fuel yh yl hf hfu
    have hr : r ≠ [] := by
      intro e
      subst e
      have : (fillL ([] : List UInt8)).length = 0 := by decide
      omega
    have hl0 : 0 < r.length := List.length_pos_iff.2 hr
    obtain ⟨f, rfl⟩ : ∃ f, fuel = f + 1 := ⟨fuel - 1, by omega⟩
    have hs : ghS hh hl (f + 1) r (yh, yl) = ghS hh hl f (r.drop 16) ((eF (yh ^^^ (rd16 (splice (zs 16) 0 (r.take 16))).1) (yl ^^^ (rd16 (splice (zs 16) 0 (r.take 16))).2) hh hl 128).zh, (eF (yh ^^^ (rd16 (splice (zs 16) 0 (r.take 16))).1) (yl ^^^ (rd16 (splice (zs 16) 0 (r.take 16))).2) hh hl 128).zl) := by
      show (if r = [] then _ else _) = _
      rw [if_neg hr]
    rw [hs]
    show _ = rG (wr16 hh hl) n ((fillL r).drop 16) (rT (xorL (wr16 yh yl) ((fillL r).take 16)) (wr16 hh hl) 128).1
    rw [fill_take r hr, fill_drop r hr]
    have hP := wr_rd _ (splice_len r)
    generalize splice (zs 16) 0 (r.take 16) = P at *
    obtain ⟨ph, hph⟩ : ∃ ph, ph = (rd16 P).1 := ⟨_, rfl⟩
    obtain ⟨pl, hpl⟩ : ∃ pl, pl = (rd16 P).2 := ⟨_, rfl⟩
    rw [← hph, ← hpl] at hP ⊢
    rw [← hP, xor_wr, rT_wr _ _ _ _ 128 (by omega)]
    refine ih (r.drop 16) f _ _ ?_ (by rw [List.length_drop]; omega)
    rw [← fill_drop r hr, List.length_drop, hf]; omega
theorem gh_same (h b : List UInt8) (hh : h.length = 16) : gh h b = rgh h b := by
  have hf := fillL_len b
  have h1 := gh_rG (rd16 h).1 (rd16 h).2 ((fillL b).length / 16) b b.length 0 0 (by omega) (Nat.le_refl _)
  rw [wr_rd h hh, wr_zero] at h1
  exact h1
end Go.Proofs.Ytgkkafkdgmdihaa
