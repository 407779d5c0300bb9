/-
  Encrypt and Decrypt give nothing for no cipher and for bytes that are no block.
-/
import Derived.Test.YtgkkafkdgmdihaaAesE
namespace Go.Proofs.Ytgkkafkdgmdihaa
open Go.RowKit

set_option maxRecDepth 100000 in
theorem enc_nil (A : Option Addr) (m c : Nat) (w : World) :
    Calls Try.prog 10 #[.pointer none, .slice A m c] w fun e w' => e = .returned (.slice none 0 0) ∧ Below w.heap.size w w' := by
  go_enter Try.func10, Try.ntmps10
  go_wp2
  go_ret
  exact ⟨rfl, (Below.refl _ _).alloc (Nat.le_refl _) _⟩
set_option maxRecDepth 100000 in
theorem dec_nil (A : Option Addr) (m c : Nat) (w : World) :
    Calls Try.prog 11 #[.pointer none, .slice A m c] w fun e w' => e = .returned (.slice none 0 0) ∧ w' = w := by
  go_enter Try.func11, Try.ntmps11
  go_wp2
  go_ret
  exact ⟨rfl, rfl⟩
set_option maxRecDepth 100000 in
theorem enc_len (b : Nat) (A : Option Addr) (m c : Nat) (w : World) (h : m ≠ 16) :
    Calls Try.prog 10 #[.pointer (some ⟨b, 0, none⟩), .slice A m c] w fun e w' => e = .returned (.slice none 0 0) ∧ Below w.heap.size w w' := by
  have h1 : ((m : Int) != 16) = true := by simp; omega
  have h1' : ¬ (m : Int) = 16 := by omega
  go_enter Try.func10, Try.ntmps10
  go_wp2
  go_ret
  exact ⟨rfl, (Below.refl _ _).alloc (Nat.le_refl _) _⟩
set_option maxRecDepth 100000 in
theorem dec_len (b : Nat) (A : Option Addr) (m c : Nat) (w : World) (h : m ≠ 16) :
    Calls Try.prog 11 #[.pointer (some ⟨b, 0, none⟩), .slice A m c] w fun e w' => e = .returned (.slice none 0 0) ∧ w' = w := by
  have h1 : ((m : Int) != 16) = true := by simp; omega
  have h1' : ¬ (m : Int) = 16 := by omega
  go_enter Try.func11, Try.ntmps11
  go_wp2
  go_ret
  exact ⟨rfl, rfl⟩
end Go.Proofs.Ytgkkafkdgmdihaa
