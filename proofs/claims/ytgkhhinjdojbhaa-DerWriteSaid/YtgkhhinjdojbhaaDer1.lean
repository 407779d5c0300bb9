/-
  DER: may the bytes of a node be? The program's and the reference's.
-/
import Derived.Test.YtgkhhinjdojbhaaDerE
import Derived.Test.YtgkhhinjdojbhaaRowE
import Derived.Test.YtgkhhinjdojbhaaLift
namespace Go.Proofs.Ytgkhhinjdojbhaa
open Go.RowKit

theorem Rd.byte {w : World} {A : Option Addr} {m c : Nat} {l : List UInt8} (h : Rd w A m c l) {k : Nat} {x : UInt8} (hx : l[k]? = some x) : ∃ g off, A = some ⟨g, off, none⟩ ∧ w.cell? ⟨g, off + k, none⟩ = some (.int .u8 (x.toNat : Int)) := by
  obtain ⟨hk, rfl⟩ := List.getElem?_eq_some_iff.1 hx
  obtain ⟨b, off, hA, hat⟩ := h.addr (by have := h.1; omega)
  exact ⟨b, off, hA, hat.cell hk⟩
theorem nameGo_step {b : Bool} {l : List UInt8} {k : Nat} {x : UInt8} (hx : l[k]? = some x) : nameGo b (l.drop k) = if b && x == 128 then none else nameGo (decide (x < 128)) (l.drop (k + 1)) := by
  obtain ⟨hk, rfl⟩ := List.getElem?_eq_some_iff.1 hx
  rw [List.drop_eq_getElem_cons hk]; rfl
theorem u8_eq (x y : UInt8) : (x = y) ↔ (x.toNat : Int) = y.toNat := by rw [← UInt8.toNat_inj]; omega
theorem u8_lt (x y : UInt8) : (x < y) ↔ (x.toNat : Int) < y.toNat := by rw [UInt8.lt_iff_toNat_lt]; omega
theorem u8_eq128 (x : UInt8) : (x = 128) ↔ (x.toNat : Int) = 128 := by rw [← UInt8.toNat_inj]; show x.toNat = 128 ↔ _; omega
theorem u8_lt128 (x : UInt8) : (x < 128) ↔ (x.toNat : Int) < 128 := by rw [UInt8.lt_iff_toNat_lt]; show x.toNat < 128 ↔ _; omega
set_option maxHeartbeats 1000000 in
theorem name_any (A : Option Addr) (m c : Nat) (l : List UInt8) (w : World) (h : Rd w A m c l) :
    Calls Try.prog 61 #[.slice A m c] w fun e w' => e = .returned (.bool (nameOk l)) ∧ w = w' := by
  have hml : l.length = m := by have := h.1; omega
  have hmax : (m : Int) ≤ 9223372036854775807 := by have := h.2.1; have := h.2.2.1; unfold maxLen at *; omega
  have HR := Lib.hid h
  clear h
  go_enter Try.func61, Try.ntmps61
  go_wp2_with fail
  go_loop [3, 8] (fun bb kk => ∃ (b : Bool) (k : Nat), k ≤ m ∧ bb = .bool b ∧ kk = .int .i64 (k : Int) ∧ nameGo b (l.drop k) = nameGo true l) (fun _ kk => m - (intOf kk).toNat)
  case atStart => exact ⟨true, 0, by omega, rfl, rfl, rfl⟩
  case round =>
    obtain ⟨b, k, hk, rfl, rfl, hn⟩ := hrel
    by_cases hlt : k < m
    · have hlti : (k : Int) < m := by omega
      have hltd : decide ((k : Int) < (m : Int)) = true := decide_eq_true hlti
      have hk0 : ¬ ((k : Int) < 0) := by omega
      obtain ⟨x, hx⟩ : ∃ x, l[k]? = some x := ⟨_, List.getElem?_eq_getElem (by omega)⟩
      obtain ⟨g, off, rfl, hc⟩ := HR.out.byte hx
      rw [nameGo_step hx] at hn
      have HN := Lib.hid (And.intro hn hx)
      clear hn hx
      by_cases h128 : x = 128
      · subst h128
        cases b with
        | true =>
          have hres : nameOk l = false := by have := HN.out.1; simp at this; unfold nameOk; rw [← this]
          go_wp2_with fail
          go_ret
          exact ⟨by first | rfl | (rw [hres]; rfl), rfl⟩
        | false =>
          go_wp2_with fail
          go_round
          case measure => simp [intOf]; omega
          exact ⟨_, k + 1, by omega, rfl, by simp, by have := HN.out.1; simpa using this⟩
      · have hne : ¬ ((x.toNat : Int) = 128) := fun e => h128 ((u8_eq128 x).2 e)
        have hned : decide ((x.toNat : Int) = 128) = false := decide_eq_false hne
        have hn2 : nameGo (decide ((x.toNat : Int) < 128)) (l.drop (k + 1)) = nameGo true l := by
          have := HN.out.1
          rw [if_neg (by simp [h128])] at this
          exact (congrArg (fun z => nameGo z (l.drop (k + 1))) (decide_eq_decide.2 (u8_lt128 x).symm)).trans this
        have HN2 := Lib.hid hn2
        clear hn2
        cases b with
        | true =>
          go_wp2_with fail
          go_round
          case measure => simp [intOf]; omega
          exact ⟨_, k + 1, by omega, rfl, by simp, HN2.out⟩
        | false =>
          go_wp2_with fail
          go_round
          case measure => simp [intOf]; omega
          exact ⟨_, k + 1, by omega, rfl, by simp, HN2.out⟩
    · obtain rfl : k = m := by omega
      have hlti : ¬ (k : Int) < k := by omega
      rw [List.drop_of_length_le (by omega)] at hn
      have hres : nameOk l = (decide (0 < l.length) && b) := by unfold nameOk; rw [← hn]; rfl
      rw [hml] at hres
      have HN := Lib.hid hres
      clear hn hres
      by_cases h0 : 0 < k
      · have h0i : (0 : Int) < k := by omega
        have hres := HN.out
        rw [decide_eq_true h0, Bool.true_and] at hres
        have HN := Lib.hid hres
        clear hres
        go_wp2_with fail
        go_ret
        exact ⟨by rw [HN.out]; rfl, rfl⟩
      · obtain rfl : k = 0 := by omega
        have hres := HN.out
        simp at hres
        have HN := Lib.hid hres
        clear hres
        go_wp2_with fail
        go_ret
        exact ⟨by rw [HN.out]; rfl, rfl⟩
end Go.Proofs.Ytgkhhinjdojbhaa
