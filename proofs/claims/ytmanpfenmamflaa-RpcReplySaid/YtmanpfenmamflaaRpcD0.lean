/-
  What is known of one call and one reply.
-/
import Derived.Test.YtmanpfenmamflaaRpcC
import Derived.Test.YtmanpfenmamflaaRpcA
namespace Go.Proofs.Ytmanpfenmamflaa
open Go.RowKit

def C0 : PCall := ⟨9, 1, 0, 0, 0, 0, [], [97], [], [], []⟩
def B0 : List UInt8 := [9, 0, 0, 0, 1, 0, 0, 0, 0, 0, 0, 0, 0, 0, 0, 0, 0, 0, 0, 0, 0, 0, 0, 0, 0, 0, 1, 97, 0, 0, 0, 0]
def F0 : List UInt8 := [0, 0, 0, 32] ++ B0
theorem f0_known : frameO (callO C0) = some F0 := by decide +kernel
theorem nx_known : nxB F0 = B0 ∧ nxN F0 = 36 ∧ nxK F0 = true := by decide +kernel
theorem rc_known : rcOk B0 = true ∧ (rcC B0).fn = 9 ∧ (rcC B0).data = [97] := by decide +kernel
theorem fr_known : Frames F0 1 := by
  refine ⟨fun k hk => ?_, ?_⟩
  · obtain rfl : k = 0 := by omega
    decide +kernel
  · decide +kernel
def R0 : PRep := ⟨0, 5, 0, [], [], []⟩
theorem r0_known : ∃ f, frameO (replyO R0) = some f ∧ 4 < f.length := by
  have h : (frameO (replyO R0)).isSome = true ∧ 4 < ((frameO (replyO R0)).getD []).length := by decide +kernel
  cases hf : frameO (replyO R0) with
  | none => rw [hf] at h; simp at h
  | some f => rw [hf] at h; exact ⟨f, rfl, h.2⟩
end Go.Proofs.Ytmanpfenmamflaa
