/-
  'baileylaw5.AesBack' returns true: decrypting undoes encrypting. No condition.
-/
import Derived.Test.YtgjnmpjimhbfgaaGreatDoorAesB
import Derived.Test.YtgjnmpjimhbfgaaGreatDoorZzAesBx
import Derived.Test.YtgjnmpjimhbfgaaGreatDoorLift
namespace Go.Proofs.YtgjnmpjimhbfgaaGreatDoor
set_option maxRecDepth 100000
open Go.RowKit
set_option maxRecDepth 100000 in
theorem new_no (A : Option Addr) (m c : Nat) (w : World) (h : m ≠ 16 ∧ m ≠ 24 ∧ m ≠ 32) :
  Calls Tryz.prog 93 #[.slice A m c] w fun e w' => e = .returned (.pointer none) ∧ w' = w := by
 have h1 : ((m : Int) != 16) = true := by simp; omega
 have h2 : ((m : Int) != 24) = true := by simp; omega
 have h3 : ((m : Int) != 32) = true := by simp; omega
 have h1' : ¬ (m : Int) = 16 := by omega
 have h2' : ¬ (m : Int) = 24 := by omega
 have h3' : ¬ (m : Int) = 32 := by omega
 go_enter Tryz.func93, Tryz.ntmps93
 go_wp2
 go_ret
 exact ⟨rfl, rfl⟩
end Go.Proofs.YtgjnmpjimhbfgaaGreatDoor
