/-
  The reference's boxes.
-/
import Derived.Test.YtiocmebcbhbcmaaZzAesR1
namespace Go.Proofs.Ytiocmebcbhbcmaa
open Go.RowKit

theorem conv_i8 (k : Nat) (hk : k < 256) (w : World) : (convert 3 5 (.int .i64 (k : Int))).run Try.prog w = .ok (B (UInt8.ofNat k)) w := by
  rw [conv_int w .u8 Try.underlying3 Try.underlying5, wrap_u8]
  have : (UInt8.ofNat k).toNat = k := by simp; omega
  unfold B
  rw [this, Int.emod_eq_of_lt (by omega) (by omega)]
set_option maxRecDepth 100000 in
set_option maxHeartbeats 2000000 in
theorem boxes_any (w : World) : Calls Try.prog 58 #[] w fun e w' => ∃ g1 g2, e = .returned (.tuple #[.slice (some ⟨g1, 0, none⟩) 256 256, .slice (some ⟨g2, 0, none⟩) 256 256]) ∧ g1 ≠ g2 ∧
    Own w' w.heap.size (.slice (some ⟨g1, 0, none⟩) 256 256) boxL ∧ Own w' w.heap.size (.slice (some ⟨g2, 0, none⟩) 256 256) invL ∧ Below w.heap.size w w' := by
  obtain ⟨X, hX⟩ : ∃ X, w.heap.size = X := ⟨_, rfl⟩
  have hm1 := Try.prog_make 256 (by omega) w
  obtain ⟨w1, hw1⟩ : ∃ w1, w.alloc (.cells (madeCells #[.int .u8 0] 256) 5) = w1 := ⟨_, rfl⟩
  have hO1 : Own w1 X (.slice (some ⟨X, 0, none⟩) 256 256) (zs 256) := by rw [← hw1, ← hX]; exact Own.made w 256 (by unfold maxLen; omega)
  have hB1 : Below X w w1 := by rw [← hw1, ← hX]; exact (Below.refl _ _).alloc (Nat.le_refl _) _
  have hz1 : w1.heap.size = X + 1 := by rw [← hw1, ← hX]; simp
  rw [hw1, hX, show ((256 : Nat) : Int) = 256 from rfl] at hm1
  have hm2 := Try.prog_make 256 (by omega) w1
  obtain ⟨w2, hw2⟩ : ∃ w2, w1.alloc (.cells (madeCells #[.int .u8 0] 256) 5) = w2 := ⟨_, rfl⟩
  have hO2 : Own w2 (X + 1) (.slice (some ⟨X + 1, 0, none⟩) 256 256) (zs 256) := by rw [← hw2, ← hz1]; exact Own.made w1 256 (by unfold maxLen; omega)
  have hB2 : Below X w w2 := by rw [← hw2]; exact hB1.alloc (by omega) _
  have hO12 : Own w2 X (.slice (some ⟨X, 0, none⟩) 256 256) (zs 256) := by rw [← hw2]; exact hO1.alloc_ _
  rw [hw2, hz1, show ((256 : Nat) : Int) = 256 from rfl] at hm2
  have HH := Lib.hid (And.intro hO12 (And.intro hO2 hB2))
  clear hO1 hB1 hO2 hB2 hO12 hw1 hw2 hz1
  rw [hX]
  go_enter Try.func58, Try.ntmps58
  go_wp2_with fail
  clear hm1 hm2
  go_loopw [4] (fun iv wr => ∃ (i : Nat) (s t : List UInt8), i ≤ 256 ∧ iv = .int .i64 (i : Int) ∧ Own wr X (.slice (some ⟨X, 0, none⟩) 256 256) s ∧ Own wr (X + 1) (.slice (some ⟨X + 1, 0, none⟩) 256 256) t ∧ Below X w wr ∧ (∀ j, j < i → s[j]? = some (sb (UInt8.ofNat j))) ∧ (∀ j, j < i → t[(sb (UInt8.ofNat j)).toNat]? = some (UInt8.ofNat j))) (fun iv _ => 256 - (intOf iv).toNat)
  case atStart => exact ⟨0, zs 256, zs 256, by omega, rfl, HH.out.1, HH.out.2.1, HH.out.2.2, fun j h => by omega, fun j h => by omega⟩
  case round =>
    obtain ⟨i, s, t, hi, rfl, hs, ht, hB, p1, p2⟩ := hrel
    have hsl := hs.len
    have htl := ht.len
    by_cases hlt : i < 256
    · have hq : (i : Int) < 256 := by omega
      have hcv := conv_i8 i hlt
      generalize hv : UInt8.ofNat i = v at *
      obtain ⟨sv, hsv⟩ : ∃ sv, sv = sb v := ⟨_, rfl⟩
      have hsq : (sv.toNat : Int) < 256 := by have := sv.toNat_lt; omega
      have hsn : sv.toNat < 256 := sv.toNat_lt
      obtain ⟨a, ha⟩ : ∃ a, s[i]? = some a := ⟨_, List.getElem?_eq_getElem (by omega)⟩
      obtain ⟨b, hb⟩ : ∃ b, t[sv.toNat]? = some b := ⟨_, List.getElem?_eq_getElem (by omega)⟩
      have y0 := hs.cell i a ha
      have y1 := hs.frozen i
      have y2 := ht.cell sv.toNat b hb
      have y3 := ht.frozen sv.toNat
      have HS := Lib.hid (And.intro hs (And.intro ht (And.intro hB (And.intro p1 (And.intro p2 (And.intro hsl htl))))))
      have HV := Lib.hid (And.intro hv hsv)
      have hsub := sub_any v
      rw [← hsv] at hsub
      have HSb := Lib.hid hsub
      clear hs ht hB p1 p2 hsl htl ha hb hv hsv hsub
      go_wp2_with (go_at_call 75; refine (HSb.out _).mono ?_; rintro e wx ⟨rfl, rfl⟩)
      have hs2 := (HS.out.1.set_ i sv hlt).turn ((Turn.refl [X + 1] _).setCell (p := ⟨X + 1, sv.toNat, none⟩) (.inl (by simp)) (B v)) (fun g hg hm => by cases hg; simp at hm)
      have ht2 := (HS.out.2.1.turn ((Turn.refl [X] _).setCell (p := ⟨X, i, none⟩) (.inl (by simp)) (B sv)) (fun g hg hm => by cases hg; simp at hm)).set_ sv.toNat v hsn
      have hT : Turn [X, X + 1] wr ((wr.setCell ⟨X, i, none⟩ (B sv)).setCell ⟨X + 1, sv.toNat, none⟩ (B v)) := ((Turn.refl _ _).setCell (p := ⟨X, i, none⟩) (.inl (by simp)) _).setCell (p := ⟨X + 1, sv.toNat, none⟩) (.inl (by simp)) _
      refine ⟨⟨i + 1, s.set i sv, t.set sv.toNat v, by omega, by go_num, hs2, ht2, below_turn HS.out.2.2.1 hT (fun t ht => by simp at ht; omega) (by rw [← hX]; exact HS.out.2.2.1.size), fun j hj => ?_, fun j hj => ?_⟩, by simp [intOf]; omega⟩
      · rw [List.getElem?_set]
        by_cases e : i = j
        · subst e
          rw [if_pos rfl, if_pos (by have := HS.out.2.2.2.2.2.1; omega), HV.out.1, HV.out.2]
        · rw [if_neg e]; exact HS.out.2.2.2.1 j (by omega)
      · rw [List.getElem?_set]
        by_cases e : sv.toNat = (sb (UInt8.ofNat j)).toNat
        · rw [if_pos e, if_pos (by have := HS.out.2.2.2.2.2.2; omega)]
          have e' : sb v = sb (UInt8.ofNat j) := by rw [← HV.out.2]; exact UInt8.toNat_inj.1 e
          rw [sb_inj _ _ e']
        · rw [if_neg e]
          rcases Nat.lt_or_ge j i with h | h
          · exact HS.out.2.2.2.2.1 j h
          · obtain rfl : j = i := by omega
            exact absurd (by rw [HV.out.1, HV.out.2]) e
    · obtain rfl : i = 256 := by omega
      have hq : ¬ ((256 : Int) < 256) := by omega
      have hsb : s = boxL := by
        unfold boxL
        refine List.ext_getElem? fun i => ?_
        rcases Nat.lt_or_ge i 256 with hi | hi
        · rw [List.getElem?_map, List.getElem?_range hi]; exact p1 i hi
        · rw [List.getElem?_eq_none (by omega), List.getElem?_eq_none (by simpa using hi)]
      have hti : t = invL := by
        unfold invL
        refine List.ext_getElem? fun i => ?_
        rcases Nat.lt_or_ge i 256 with hi | hi
        · rw [List.getElem?_map, List.getElem?_range hi]
          have h := p2 (si (UInt8.ofNat i)).toNat (UInt8.toNat_lt _)
          rw [UInt8.ofNat_toNat, sb_si] at h
          have hn : (UInt8.ofNat i).toNat = i := by simp; omega
          rw [hn] at h
          exact h
        · rw [List.getElem?_eq_none (by omega), List.getElem?_eq_none (by simpa using hi)]
      subst hsb hti
      have HS := Lib.hid (And.intro hs (And.intro ht hB))
      clear hs ht hB p1 p2 hsl htl hi hlt
      go_wp2_with fail
      go_ret2
      exact ⟨X, X + 1, rfl, by omega, HS.out.1, HS.out.2.1.mono (by omega), HS.out.2.2⟩
end Go.Proofs.Ytiocmebcbhbcmaa
