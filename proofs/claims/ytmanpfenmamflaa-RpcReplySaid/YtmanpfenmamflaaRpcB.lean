/-
  rpc.Next.
-/
import Derived.Test.YtmanpfenmamflaaRpc7
import Derived.Test.YtmanpfenmamflaaRot
import Derived.OwnWalk
namespace Go.Proofs.Ytmanpfenmamflaa
open Go.RowKit

theorem or_add (a b i : Nat) (h : b < 2 ^ i) : a * 2 ^ i ||| b = a * 2 ^ i + b := by
  have := Nat.two_pow_add_eq_or_of_lt (i := i) (b := b) h a
  rw [Nat.mul_comm] at this
  exact this.symm
theorem be32_nat (a b c d : UInt8) : (be32 a b c d).toNat = ((a.toNat * 256 + b.toNat) * 256 + c.toNat) * 256 + d.toNat := by
  have ha := a.toNat_lt
  have hb := b.toNat_lt
  have hc := c.toNat_lt
  have hd := d.toNat_lt
  unfold be32
  simp only [UInt32.toNat_or, UInt32.toNat_shiftLeft, UInt8.toNat_toUInt32, Nat.shiftLeft_eq]
  rw [show (24 : UInt32).toNat % 32 = 24 from rfl, show (16 : UInt32).toNat % 32 = 16 from rfl, show (8 : UInt32).toNat % 32 = 8 from rfl]
  rw [Nat.mod_eq_of_lt (show a.toNat * 2 ^ 24 < 2 ^ 32 by omega), Nat.mod_eq_of_lt (show b.toNat * 2 ^ 16 < 2 ^ 32 by omega), Nat.mod_eq_of_lt (show c.toNat * 2 ^ 8 < 2 ^ 32 by omega)]
  rw [or_add a.toNat _ 24 (by omega)]
  rw [show a.toNat * 2 ^ 24 + b.toNat * 2 ^ 16 = (a.toNat * 256 + b.toNat) * 2 ^ 16 by omega, or_add _ _ 16 (by omega)]
  rw [show (a.toNat * 256 + b.toNat) * 2 ^ 16 + c.toNat * 2 ^ 8 = ((a.toNat * 256 + b.toNat) * 256 + c.toNat) * 2 ^ 8 by omega, or_add _ _ 8 (by omega)]
theorem word32_be (l : List UInt8) (h : 4 ≤ l.length) : (word32 l 0).toNat = be (l.take 4) := by
  match l, h with
  | a :: b :: c :: d :: r, _ =>
    have e : be (List.take 4 (a :: b :: c :: d :: r)) = ((((0 * 256 + a.toNat) * 256 + b.toNat) * 256 + c.toNat) * 256 + d.toNat) := by
      simp only [be, List.take_succ_cons, List.take_zero, List.foldl_cons, List.foldl_nil]
    rw [e]
    unfold word32
    simp only [List.getD_cons_zero, Nat.zero_add, List.getD_cons_succ]
    rw [be32_nat]
    omega
/-- The frame with which bytes begin. -/
def nxB (l : List UInt8) : List UInt8 := if l.length < 4 then [] else if 262144 < be (l.take 4) then [] else if l.length - 4 < be (l.take 4) then [] else (l.drop 4).take (be (l.take 4))
def nxN (l : List UInt8) : Nat := if l.length < 4 then 0 else if 262144 < be (l.take 4) then 0 else if l.length - 4 < be (l.take 4) then 0 else 4 + be (l.take 4)
def nxK (l : List UInt8) : Bool := if l.length < 4 then true else if 262144 < be (l.take 4) then false else true
def NxRes (w : World) (l : List UInt8) (e : Ending) (w' : World) : Prop := ∃ A m c, e = .returned (.tuple #[.slice A m c, .int .i64 (nxN l : Int), .bool (nxK l)]) ∧ Own w' w.heap.size (.slice A m c) (nxB l) ∧ Below w.heap.size w w'
set_option maxHeartbeats 1000000 in
theorem next_any (A : Option Addr) (m c : Nat) (l : List UInt8) (w : World) (h : Rd w A m c l) (hl : l.length ≤ 1000000000) :
    Calls Try.prog 14 #[.slice A m c] w (NxRes w l) := by
  have hm := h.1
  have hmc := h.2.1
  have hcm := h.2.2.1
  unfold maxLen at hcm
  by_cases h4 : m < 4
  · have h4i : (m : Int) < 4 := by omega
    have h4d : decide ((m : Int) < 4) = true := decide_eq_true h4i
    have e1 : nxB l = [] := if_pos (by omega)
    have e2 : nxN l = 0 := if_pos (by omega)
    have e3 : nxK l = true := if_pos (by omega)
    unfold NxRes
    rw [e1, e2, e3]
    clear e1 e2 e3
    go_enter Try.func14, Try.ntmps14
    go_wp2_with fail
    go_ret3
    exact ⟨none, 0, 0, rfl, Own.nil _ _, Below.refl _ _⟩
  · have h4i : ¬ (m : Int) < 4 := by omega
    have h4d : decide ((m : Int) < 4) = false := decide_eq_false h4i
    obtain ⟨b, off, rfl, hat⟩ := h.addr (by omega)
    obtain ⟨N, hN⟩ : ∃ N, be (l.take 4) = N := ⟨_, rfl⟩
    have hw := word32_be l (by omega)
    rw [hN] at hw
    have hNl : N < 4294967296 := by rw [← hw]; exact UInt32.toNat_lt _
    have hgt := get32_any b off m c l w hat hm (by omega)
    rw [U32_eq (n := (N : Int)) (by rw [hw])] at hgt
    have H := Lib.hid (And.intro h (And.intro hgt (And.intro hN hm)))
    have e4 : ¬ l.length < 4 := by omega
    clear hgt hw hat hm
    by_cases hbig : 262144 < N
    · have hbi : (262144 : Int) < N := by omega
      have hbd : decide ((262144 : Int) < N) = true := decide_eq_true hbi
      have e1 : nxB l = [] := by unfold nxB; rw [if_neg e4, hN, if_pos hbig]
      have e2 : nxN l = 0 := by unfold nxN; rw [if_neg e4, hN, if_pos hbig]
      have e3 : nxK l = false := by unfold nxK; rw [if_neg e4, hN, if_pos hbig]
      unfold NxRes
      rw [e1, e2, e3]
      clear e1 e2 e3 hN e4
      go_enter Try.func14, Try.ntmps14
      go_wp2_with fail
      refine H.out.2.1.mono ?_
      rintro e w1 ⟨rfl, k, hk⟩
      have hB1 : Below w.heap.size w w1 := by rw [hk]; exact (Old.refl w).drewN k
      have HB := Lib.hid hB1
      clear hk hB1
      go_wp2_with fail
      go_ret3
      exact ⟨none, 0, 0, rfl, Own.nil _ _, HB.out⟩
    · have hbi : ¬ (262144 : Int) < N := by omega
      have hbd : decide ((262144 : Int) < N) = false := decide_eq_false hbi
      have e3 : nxK l = true := by unfold nxK; rw [if_neg e4, hN, if_neg hbig]
      unfold NxRes
      rw [e3]
      by_cases hlen : l.length - 4 < N
      · have hli : (m : Int) - 4 < N := by have := H.out.2.2.2; omega
        have hld : decide ((m : Int) - 4 < N) = true := decide_eq_true hli
        have e1 : nxB l = [] := by unfold nxB; rw [if_neg e4, hN, if_neg hbig, if_pos hlen]
        have e2 : nxN l = 0 := by unfold nxN; rw [if_neg e4, hN, if_neg hbig, if_pos hlen]
        rw [e1, e2]
        clear e1 e2 e3 hN e4
        go_enter Try.func14, Try.ntmps14
        go_wp2_with fail
        refine H.out.2.1.mono ?_
        rintro e w1 ⟨rfl, k, hk⟩
        have hB1 : Below w.heap.size w w1 := by rw [hk]; exact (Old.refl w).drewN k
        have HB := Lib.hid hB1
        clear hk hB1
        go_wp2_with fail
        go_ret3
        exact ⟨none, 0, 0, rfl, Own.nil _ _, HB.out⟩
      · have hli : ¬ (m : Int) - 4 < N := by have := H.out.2.2.2; omega
        have hld : decide ((m : Int) - 4 < N) = false := decide_eq_false hli
        have e1 : nxB l = (l.drop 4).take N := by unfold nxB; rw [if_neg e4, hN, if_neg hbig, if_neg hlen]
        have e2 : nxN l = 4 + N := by unfold nxN; rw [if_neg e4, hN, if_neg hbig, if_neg hlen]
        rw [e1, e2]
        have hmm := H.out.2.2.2
        have hrun0 := slice_both (some ⟨b, off, none⟩) m c 4 (4 + N) (by omega) (by omega)
        have hrd := (H.out.1.cut (k := 4) (by omega)).front (k := N) (by omega)
        rw [show 4 + N - 4 = N by omega] at hrun0
        obtain ⟨A2, hA2⟩ : ∃ A2, (if c = 4 then some (⟨b, off, none⟩ : Addr) else Option.map (fun x : Addr => x.add 4) (some (⟨b, off, none⟩ : Addr))) = A2 := ⟨_, rfl⟩
        rw [hA2] at hrun0 hrd
        have hR := Lib.hid (And.intro hrun0 hrd)
        clear e1 e2 e3 hN e4 hrun0 hrd hA2 hmm
        go_enter Try.func14, Try.ntmps14
        go_wp2_with fail
        refine H.out.2.1.mono ?_
        rintro e w1 ⟨rfl, k, hk⟩
        have hB1 : Below w.heap.size w w1 := by rw [hk]; exact (Old.refl w).drewN k
        have HB := Lib.hid hB1
        have hrun := hR.out.1 w1
        rw [show ((4 : Nat) : Int) = 4 from rfl, show ((4 + N : Nat) : Int) = 4 + (N : Int) by omega] at hrun
        clear hk hB1
        go_wp2_with fail
        refine (clone_own A2 N (c - 4) _ w1 (hR.out.2.below HB.out) (by omega)).mono ?_
        rintro e w2 ⟨A3, n3, c3, rfl, hO, hB2⟩
        have H2 := Lib.hid (And.intro hO hB2)
        clear hO hB2
        go_wp2_with fail
        go_ret3
        exact ⟨A3, n3, c3, by simp, H2.out.1.mono HB.out.size, HB.out.trans (H2.out.2.mono HB.out.size)⟩
end Go.Proofs.Ytmanpfenmamflaa
