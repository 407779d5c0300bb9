/-
  A slice that came in, whatever its elements.
-/
import Derived.Test.YtgjnmpjimhbfgaaGreatDoorZzRowK
import Derived.Test.YtgjnmpjimhbfgaaGreatDoorLift
import Derived.Deep.Slices
namespace Go.Proofs.YtgjnmpjimhbfgaaGreatDoor
set_option maxRecDepth 100000
open Go.RowKit Go.ChangeShapes Go.WideShapes Go.ChangeAt Go.Deep
section
variable {H : Type} {enc : TypeId × Value → H}
theorem addr_of_cellE {W : World} {a : Addr} {v : Value} (h : W.cell? a = some v) (_hv : ∃ k n, v = .int k n ∨ ∃ b, v = .bool b) : a.spot = none ∧ a.block < W.heap.size := by
 obtain ⟨ab, ao, sp⟩ := a
 unfold World.cell? at h
 simp only at h
 split at h
 ·rename_i cs t fr hh
  refine ⟨?_, (Array.getElem?_eq_some_iff.1 hh).1⟩
  cases sp with
  | none => rfl
  | some s => simp at h
 ·cases h
end
end Go.Proofs.YtgjnmpjimhbfgaaGreatDoor
