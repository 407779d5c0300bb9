/-
  The reader's attributes.
-/
import Derived.Test.YtmanpfenmamflaaRpc8
namespace Go.Proofs.Ytmanpfenmamflaa
open Go.RowKit

theorem Rr.oldB {W W' : World} {p base B : Nat} {l : List UInt8} {bad : Bool} (h : Rr W p base l bad) (hb : Below B W W') (hp : p < B) : Rr W' p base l bad := by
  obtain ⟨A, m, c, h1, h2, h3, h4⟩ := h
  exact ⟨A, m, c, h1.keep (hb.block _ hp), h2.keep hb.size (fun ad had => hb.block _ (by have := h3 ad had; omega)), h3, h4⟩
theorem Turn.belowB {w w1 w2 : World} {S : List Nat} (h : Turn S w w1) (hb : Below w.heap.size w1 w2) : Turn S w w2 :=
  ⟨hb.os.trans h.os, hb.tape.trans h.tape, hb.output.trans h.output, Nat.le_trans h.size hb.size, fun i hi hne => (hb.block i hi).trans (h.block i hi hne)⟩
/-- So many attributes are read: they, what is left, whether something was not there. -/
def raS (l : List UInt8) (bad : Bool) : Nat → List (Int × List UInt8) × List UInt8 × Bool
  | 0 => ([], l, bad)
  | k + 1 =>
    let r := raS l bad k
    (r.1 ++ [((be (tkO r.2.1 2) : Int), ryO (tkL r.2.1 2) 2)], ryL (tkL r.2.1 2) 2, ryB (tkL r.2.1 2) (tkB r.2.1 r.2.2 2) 2)
def raA (l : List UInt8) (bad : Bool) : List (Int × List UInt8) × List UInt8 × Bool := raS (tkL l 1) (tkB l bad 1) (be (tkO l 1))
theorem tkL_len (l : List UInt8) (n : Nat) : (tkL l n).length ≤ l.length := by unfold tkL; split <;> simp
theorem tkO_len (l : List UInt8) (n : Nat) : (tkO l n).length ≤ n := by unfold tkO; split <;> simp; omega
theorem ryL_len (l : List UInt8) (n : Nat) : (ryL l n).length ≤ l.length := Nat.le_trans (tkL_len _ _) (tkL_len _ _)
theorem raS_len (l : List UInt8) (bad : Bool) : ∀ k, (raS l bad k).2.1.length ≤ l.length
  | 0 => Nat.le_refl _
  | k + 1 => Nat.le_trans (ryL_len _ _) (Nat.le_trans (tkL_len _ _) (raS_len l bad k))
theorem raS_cnt (l : List UInt8) (bad : Bool) : ∀ k, (raS l bad k).1.length = k
  | 0 => rfl
  | k + 1 => by show (_ ++ [_]).length = _; rw [List.length_append, raS_cnt l bad k]; rfl
theorem be1_lt (l : List UInt8) : be (tkO l 1) ≤ 255 := by
  have := be_lt (tkO l 1)
  have h2 := Nat.pow_le_pow_right (n := 256) (by omega) (tkO_len l 1)
  omega
set_option maxHeartbeats 1000000 in
theorem rattrs_any (p base : Nat) (l : List UInt8) (bad : Bool) (w : World) (h : Rr w p base l bad) (hl : l.length ≤ 100000000) :
    Calls Try.prog 32 #[.pointer (some ⟨p, 0, none⟩)] w fun e w' => ∃ s : Sl, e = .returned (.slice s.A s.m s.c) ∧ OwnAts w' w.heap.size s (raA l bad).1 ∧ Rr w' p base (raA l bad).2.1 (raA l bad).2.2 ∧ Turn [p] w w' := by
  have hp := h.lt
  have H := Lib.hid (And.intro h (And.intro hl hp))
  clear h hl hp
  obtain ⟨L0, hL0⟩ : ∃ L0, tkL l 1 = L0 := ⟨_, rfl⟩
  obtain ⟨b0, hb0⟩ : ∃ b0, tkB l bad 1 = b0 := ⟨_, rfl⟩
  obtain ⟨N, hN⟩ : ∃ N, be (tkO l 1) = N := ⟨_, rfl⟩
  have hN255 : N ≤ 255 := by rw [← hN]; exact be1_lt l
  have hL0l : L0.length ≤ 100000000 := by rw [← hL0]; have := tkL_len l 1; have := H.out.2.1; omega
  have hra : raA l bad = raS L0 b0 N := by unfold raA; rw [hL0, hb0, hN]
  rw [hra]
  have HG := Lib.hid (And.intro hL0 (And.intro hb0 (And.intro hN hL0l)))
  clear hL0 hb0 hN hL0l hra
  go_enter Try.func32, Try.ntmps32
  go_wp2_with fail
  refine (get_any p base 1 l bad w H.out.1 (by omega)).mono ?_
  rintro e w1 ⟨rfl, hR, hT, hs⟩
  rw [HG.out.1, HG.out.2.1] at hR
  rw [HG.out.2.2.1]
  have H1 := Lib.hid (And.intro hR (And.intro hT (And.intro hs HG.out.2.2.2)))
  clear hR hT hs
  go_wp2_with fail
  go_loopw [3, 7] (fun v kk wr => ∃ k : Nat, k ≤ N ∧ kk = .int .i64 (k : Int) ∧ ∃ A n c, v = .slice A n c ∧ OwnAts wr w.heap.size ⟨A, n, c⟩ (raS L0 b0 k).1 ∧ Rr wr p base (raS L0 b0 k).2.1 (raS L0 b0 k).2.2 ∧ Turn [p] w wr) (fun _ kk _ => N - (intOf kk).toNat)
  case atStart => exact ⟨0, by omega, rfl, none, 0, 0, rfl, OwnAts.nil _ _, H1.out.1, H1.out.2.1⟩
  case round =>
    obtain ⟨k, hk, rfl, A, n, c, rfl, hO, hR, hT⟩ := hrel
    by_cases hlt : k < N
    · have hi : (k : Int) < N := by omega
      have hd : decide ((k : Int) < N) = true := decide_eq_true hi
      have hk0 : ¬ ((k : Int) < 0) := by omega
      obtain ⟨r, hr⟩ : ∃ r, raS L0 b0 k = r := ⟨_, rfl⟩
      have hrn : raS L0 b0 (k + 1) = (r.1 ++ [((be (tkO r.2.1 2) : Int), ryO (tkL r.2.1 2) 2)], ryL (tkL r.2.1 2) 2, ryB (tkL r.2.1 2) (tkB r.2.1 r.2.2 2) 2) := by rw [← hr]; rfl
      have hcnt : r.1.length = k := by rw [← hr]; exact raS_cnt _ _ _
      have hrl : r.2.1.length ≤ 100000000 := by rw [← hr]; exact Nat.le_trans (raS_len _ _ _) H1.out.2.2.2
      rw [hr] at hO hR
      have HR := Lib.hid (And.intro hO (And.intro hR (And.intro hT (And.intro hrn (And.intro hcnt hrl)))))
      clear hO hR hT hrn hcnt hrl hr
      go_wp2_with fail
      refine (get_any p base 2 r.2.1 r.2.2 wr HR.out.2.1 (by omega)).mono ?_
      rintro e w2 ⟨rfl, hR2, hT2, hs2⟩
      obtain ⟨t, ht⟩ : ∃ t : Int, (be (tkO r.2.1 2) : Int) = t := ⟨_, rfl⟩
      rw [ht]
      have H2 := Lib.hid (And.intro hR2 (And.intro hT2 (And.intro hs2 ht)))
      clear hR2 hT2 hs2 ht
      go_wp2_with fail
      refine (rbytes_any p base 2 _ _ w2 H2.out.1 (by omega) (Nat.le_trans (tkL_len _ _) HR.out.2.2.2.2.2)).mono ?_
      rintro e w3 ⟨A3, n3, c3, rfl, hO3, hR3, hT3⟩
      have hbig : w.heap.size ≤ w2.heap.size := by have := HR.out.2.2.1.size; have := H2.out.2.2.1; omega
      have hO' : OwnAts w3 w.heap.size ⟨A, n, c⟩ r.1 := (HR.out.1.turn H2.out.2.1 (by simp; exact H.out.2.2)).turn hT3 (by simp; exact H.out.2.2)
      have hTT : Turn [p] w w3 := (HR.out.2.2.1.trans H2.out.2.1 (fun _ hx => .inl hx)).trans hT3 (fun _ hx => .inl hx)
      have H3 := Lib.hid (And.intro (hO3.mono hbig) (And.intro hR3 (And.intro hO' hTT)))
      clear hO3 hR3 hT3 hO' hTT hbig
      have hal : ∀ o, Below w3.heap.size w3 (w3.alloc o) := fun o => (Below.refl _ _).alloc (Nat.le_refl _) o
      have HAl := Lib.hid hal
      clear hal
      go_wp2_with (at_builtin; go_must (refine wp_appT (.tmp 11) (.tmp 16) w.heap.size ⟨A, n, c⟩ r.1 (H3.out.2.2.1.below (HAl.out _)) (by have := H3.out.2.2.2.size; simp; omega) w3.heap.size t ⟨A3, n3, c3⟩ (ryO (tkL r.2.1 2) 2) (Blk.new _ _ _) (H3.out.1.below (HAl.out _)) (by have := HR.out.2.2.2.2.1; omega) rfl rfl rfl rfl ?_); intro A4 n4 c4 w4 hO4 hB4; have H4 := Lib.hid (And.intro hO4 hB4); clear hO4 hB4)
      go_roundw
      case measure => simp [intOf]; omega
      have hpw := H.out.2.2
      have hb4 : Below w.heap.size w3 w4 := ((HAl.out _).mono (by have := H3.out.2.2.2.size; omega)).trans H4.out.2
      refine ⟨k + 1, by omega, by simp, A4, n4, c4, rfl, ?_⟩
      rw [HR.out.2.2.2.1, H2.out.2.2.2]
      exact ⟨H4.out.1, H3.out.2.1.oldB hb4 hpw, H3.out.2.2.2.belowB hb4⟩
    · have hi : ¬ (k : Int) < N := by omega
      have hd : decide ((k : Int) < N) = false := decide_eq_false hi
      obtain rfl : k = N := by omega
      have HR := Lib.hid (And.intro hO (And.intro hR hT))
      clear hO hR hT
      go_wp2_with fail
      go_ret
      exact ⟨⟨A, n, c⟩, rfl, HR.out.1, HR.out.2.1, HR.out.2.2⟩
end Go.Proofs.Ytmanpfenmamflaa
