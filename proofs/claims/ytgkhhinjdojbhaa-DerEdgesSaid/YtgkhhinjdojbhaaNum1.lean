/-
  Numbers: rows of 64 bits; 'trim'.
-/
import Derived.Test.YtgkhhinjdojbhaaDer7
namespace Go.Proofs.Ytgkhhinjdojbhaa
open Go.RowKit

def Ucells (x : UInt64) : List Value := [.int .u64 (x.toNat : Int)]
def Try.eU : ETy UInt64 where
  t := 58
  ts := 38
  sz := 1
  bytes := 8
  z := .int .u64 0
  cells := Ucells
  len := fun _ => rfl
  one := fun x u hu => by simp [Ucells] at hu; rcases hu with rfl; rfl
  pos := by decide
  zsz := rfl
  small := by decide
  und := Try.underlying38
  info := by kernel_rfl
theorem limb_at {W : World} {A : Option Addr} {m : Nat} {l : List UInt64} (h : RdC Try.eU W A m l) {j : Nat} {x : UInt64} (hj : l[j]? = some x) : ∃ g off, A = some ⟨g, off, none⟩ ∧ W.cell? ⟨g, off + j, none⟩ = some (.int .u64 (x.toNat : Int)) := by
  obtain ⟨g, off, hA, hg, hc⟩ := h.at_ hj
  have c0 := hc 0 (by decide)
  rw [show off + (j * Try.eU.sz + 0) = off + j by show off + (j * 1 + 0) = off + j; omega] at c0
  exact ⟨g, off, hA, c0⟩
def trimL (l : List UInt64) : List UInt64 := (l.reverse.dropWhile (fun x => x == 0)).reverse
theorem trimL_snoc_zero (l : List UInt64) : trimL (l ++ [0]) = trimL l := by unfold trimL; simp
theorem trimL_snoc {l : List UInt64} {x : UInt64} (h : x ≠ 0) : trimL (l ++ [x]) = l ++ [x] := by unfold trimL; simp [h]
theorem trimL_nil : trimL [] = [] := rfl
theorem u64_zero (x : UInt64) : (x = 0) ↔ (x.toNat : Int) = 0 := by rw [← UInt64.toNat_inj]; show x.toNat = 0 ↔ _; omega
theorem addr_addz (a : Addr) : a.add 0 = a := by
  obtain ⟨b, o, s⟩ := a
  rfl
set_option maxRecDepth 100000 in
set_option maxHeartbeats 2000000 in
theorem trim_any (A : Option Addr) (m c : Nat) (l : List UInt64) (w : World) (h : RdC Try.eU w A m l) (hc : m ≤ c ∧ c ≤ maxLen) (hnil : A = none → c = 0) :
    Calls Try.prog 57 #[.slice A m c] w fun e w' => e = .returned (.slice A (trimL l).length c) ∧ w = w' := by
  have hml := h.1
  have hm63 : (m : Int) ≤ 9223372036854775807 := by unfold maxLen at hc; omega
  have hci : (m : Int) ≤ c := by omega
  have hA0 : A = none → c = 0 := hnil
  have HR := Lib.hid h
  clear h
  go_enter Try.func57, Try.ntmps57
  go_wp2_with fail
  go_loop [3] (fun kk => ∃ n : Nat, n ≤ m ∧ kk = .int .i64 (n : Int) ∧ trimL (l.take n) = trimL l) (fun kk => (intOf kk).toNat)
  case atStart => exact ⟨m, by omega, rfl, by rw [List.take_of_length_le (by omega)]⟩
  case round =>
    obtain ⟨n, hn, rfl, ht⟩ := hrel
    have hn0 : ¬ ((n : Int) < 0) := by omega
    have hnm : (n : Int) ≤ m := by omega
    have hnc : (n : Int) ≤ c := by omega
    have hnn : (n : Int).toNat = n := by omega
    have hn63 : (n : Int) ≤ 9223372036854775807 := by omega
    by_cases h0 : 0 < n
    · have h0i : (0 : Int) < n := by omega
      have h0d : decide ((0 : Int) < (n : Int)) = true := decide_eq_true h0i
      obtain ⟨x, hx⟩ : ∃ x, l[n - 1]? = some x := ⟨_, List.getElem?_eq_getElem (by omega)⟩
      obtain ⟨g, off, hAe, cx⟩ := limb_at HR.out hx
      subst hAe
      have hk1 : ¬ ((n : Int) - 1 < 0) := by omega
      have hk2 : (n : Int) - 1 < m := by omega
      have hk3 : ((n : Int) - 1).toNat = n - 1 := by omega
      have htk : l.take n = l.take (n - 1) ++ [x] := by rw [show l.take n = l.take (n - 1 + 1) by rw [Nat.sub_add_cancel h0], List.take_add_one, hx]; rfl
      rw [htk] at ht
      by_cases hx0 : x = 0
      · have i0 : (x.toNat : Int) = 0 := (u64_zero x).1 hx0
        rw [i0] at cx
        rw [hx0, trimL_snoc_zero] at ht
        have HT := Lib.hid ht
        clear ht htk hx hx0 i0
        go_wp2_with fail
        go_round
        case measure => simp [intOf]; omega
        exact ⟨n - 1, by omega, by first | rfl | (congr 1; omega), HT.out⟩
      · have i0 : ¬ ((x.toNat : Int) = 0) := fun e => hx0 ((u64_zero x).2 e)
        have i0d : decide ((x.toNat : Int) = 0) = false := decide_eq_false i0
        rw [trimL_snoc hx0, ← htk] at ht
        have hl : (trimL l).length = n := by rw [← ht, List.length_take]; omega
        have HT := Lib.hid hl
        clear ht htk hx hx0 hl
        go_wp2_with fail
        go_ret
        exact ⟨by rw [HT.out]; first | rfl | simp [addr_addz], rfl⟩
    · obtain rfl : n = 0 := by omega
      have hl : (trimL l).length = 0 := by rw [← ht]; rfl
      have HT := Lib.hid hl
      clear ht hl
      cases A with
      | none =>
        obtain rfl := hA0 rfl
        go_wp2_with fail
        go_ret
        exact ⟨by rw [HT.out]; first | rfl | simp, rfl⟩
      | some ad =>
        go_wp2_with fail
        go_ret
        exact ⟨by rw [HT.out]; first | rfl | simp [addr_addz], rfl⟩
end Go.Proofs.Ytgkhhinjdojbhaa
