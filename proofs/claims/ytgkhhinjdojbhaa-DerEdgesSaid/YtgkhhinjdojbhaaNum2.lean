/-
  Numbers: 'made', 'Of'.
-/
import Derived.Test.YtgkhhinjdojbhaaNum1
import Derived.Test.YtgkhhinjdojbhaaSliceE
namespace Go.Proofs.Ytgkhhinjdojbhaa
open Go.RowKit

theorem dropWhile_suffix (p : UInt64 → Bool) : ∀ l : List UInt64, ∃ k, k ≤ l.length ∧ l.dropWhile p = l.drop k
  | [] => ⟨0, Nat.le_refl _, rfl⟩
  | x :: l => by
    rw [List.dropWhile_cons]
    split
    · obtain ⟨k, hk, e⟩ := dropWhile_suffix p l
      exact ⟨k + 1, by rw [List.length_cons]; omega, by rw [e, List.drop_succ_cons]⟩
    · exact ⟨0, Nat.zero_le _, rfl⟩
theorem trimL_take (l : List UInt64) : (trimL l).length ≤ l.length ∧ trimL l = l.take (trimL l).length := by
  obtain ⟨k, hk, e⟩ := dropWhile_suffix (fun x => x == 0) l.reverse
  rw [List.length_reverse] at hk
  have h1 : trimL l = l.take (l.length - k) := by
    unfold trimL
    rw [e, List.drop_reverse, List.reverse_reverse]
  have h2 : (trimL l).length = l.length - k := by rw [h1, List.length_take]; omega
  exact ⟨by omega, by rw [h2]; exact h1⟩
set_option maxRecDepth 100000 in
set_option maxHeartbeats 2000000 in
theorem made_any (A : Option Addr) (m c : Nat) (l : List UInt64) (w : World) (h : RdC Try.eU w A m l) (hc : m ≤ c ∧ c ≤ maxLen) (hnil : A = none → c = 0) (hm : m ≤ 1000000) :
    Calls Try.prog 62 #[.slice A m c] w fun e w' => ∃ A1 n1 c1, e = .returned (.slice A1 n1 c1) ∧ OwnE Try.eU w' w.heap.size (.slice A1 n1 c1) (trimL l) ∧ Below w.heap.size w w' := by
  have ht := trim_any A m c l w h hc hnil
  obtain ⟨hle, hte⟩ := trimL_take l
  have hml := h.1
  have hrd : RdC Try.eU w A (trimL l).length (trimL l) := by have := h.take (trimL l).length (by omega); rwa [← hte] at this
  have hle2 : (trimL l).length ≤ 1000000 := by omega
  have HT := Lib.hid (And.intro hrd hle2)
  clear hrd hle hte h hle2
  go_enter Try.func62, Try.ntmps62
  go_wp2_with fail
  refine ht.mono ?_
  rintro e w1 ⟨rfl, rfl⟩
  go_wp2_with (at_builtin; go_must (refine wp_appE Try.eU (.const (.slice none 0 0)) (.tmp 4) w.heap.size (.slice none 0 0) [] (OwnE.nil _ _) (Nat.le_refl _) A _ c (trimL l) HT.out.1 hnil (by have := HT.out.2; simpa using this) rfl rfl rfl rfl ?_); intro A1 n1 c1 w2 hG; have H2 := Lib.hid hG; clear hG)
  go_ret
  refine ⟨A1, n1, c1, rfl, by have := H2.out.own; simpa using this, H2.out.below⟩
set_option maxRecDepth 100000 in
set_option maxHeartbeats 2000000 in
theorem of_any (x : UInt64) (w : World) :
    Calls Try.prog 60 #[.int .u64 (x.toNat : Int)] w fun e w' => ∃ A1 n1 c1, e = .returned (.slice A1 n1 c1) ∧ OwnE Try.eU w' w.heap.size (.slice A1 n1 c1) (trimL [x]) ∧ Below w.heap.size w w' := by
  obtain ⟨wA, hwA⟩ : ∃ wA, w.alloc (.cells #[.int .u64 (x.toNat : Int)] 58) = wA := ⟨_, rfl⟩
  have bA : Blk wA w.heap.size 58 #[.int .u64 (x.toNat : Int)] := by rw [← hwA]; exact Blk.new _ _ _
  have hbA : Below w.heap.size w wA := by rw [← hwA]; exact (Below.refl _ _).alloc (Nat.le_refl _) _
  have hm := made_any (some ⟨w.heap.size, 0, none⟩) 1 1 [x] wA (Blk.rdC Try.eU bA rfl) ⟨Nat.le_refl _, by decide⟩ (fun h => nomatch h) (by omega)
  have HB := Lib.hid hbA
  clear hbA bA
  go_enter Try.func60, Try.ntmps60
  go_wp2_with fail
  try rw [hwA]
  refine hm.mono ?_
  rintro e w1 ⟨A1, n1, c1, rfl, ho, hb⟩
  have H1 := Lib.hid (And.intro (ho.mono HB.out.size) (HB.out.trans (hb.mono HB.out.size)))
  clear ho hb hm
  go_wp2_with fail
  go_ret
  exact ⟨A1, n1, c1, rfl, H1.out.1, H1.out.2⟩
end Go.Proofs.Ytgkhhinjdojbhaa
