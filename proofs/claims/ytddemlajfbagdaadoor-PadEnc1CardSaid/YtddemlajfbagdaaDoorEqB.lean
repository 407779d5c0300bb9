/-
  bytes.Equal.
-/
import Derived.Test.YtddemlajfbagdaaDoorZzRot
namespace Go.Proofs.YtddemlajfbagdaaDoor
set_option maxRecDepth 100000
open Go.RowKit

theorem equalB_any (A : Option Addr) (m c : Nat) (A' : Option Addr) (m' c' : Nat) (l l' : List UInt8) (w : World) (hr : Rd w A m c l) (hr' : Rd w A' m' c' l') :
    Calls Tryd.prog 41 #[.slice A m c, .slice A' m' c'] w fun e w' => (e = .returned (.bool (decide (l = l')))) ∧ w = w' := by
  have s1 := hr.str
  have s2 := hr'.str
  clear hr hr'
  by_cases he : l = l'
  · rw [decide_eq_true he]
    subst he
    go_enter Tryd.func41, Tryd.ntmps41
    go_wp2
    go_ret
    exact ⟨by first | rfl | simp, rfl⟩
  · rw [decide_eq_false he]
    have hn : (⟨l.toArray⟩ : ByteArray) ≠ ⟨l'.toArray⟩ := fun e => he (by simpa using congrArg (fun b => b.data.toList) e)
    go_enter Tryd.func41, Tryd.ntmps41
    go_wp2
    go_ret
    exact ⟨by first | rfl | simp [he], rfl⟩
end Go.Proofs.YtddemlajfbagdaaDoor
