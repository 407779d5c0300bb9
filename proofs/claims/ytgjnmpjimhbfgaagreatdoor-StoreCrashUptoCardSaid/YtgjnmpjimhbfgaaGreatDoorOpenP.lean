/-
  A slice of slices of bytes that came in: rows of bytes; a row of no room may lie anywhere.
-/
import Derived.Test.YtgjnmpjimhbfgaaGreatDoorLift
import Derived.Deep.Matrix
import Derived.Test.YtgjnmpjimhbfgaaGreatDoorZzEqB
namespace Go.Proofs.YtgjnmpjimhbfgaaGreatDoor
set_option maxRecDepth 100000
open Go.RowKit Go.ChangeShapes Go.WideShapes Go.ChangeAt
def RdE (w : World) (A : Option Addr) (m c : Nat) (l : List UInt8) : Prop := Rd w A m c l ∨ (m = 0 ∧ c = 0 ∧ l = [])
theorem RdE.below {w w' : World} {A : Option Addr} {m c : Nat} {l : List UInt8} (h : RdE w A m c l) (hb : Old w w') : RdE w' A m c l := h.imp (fun h => h.below hb) id
end Go.Proofs.YtgjnmpjimhbfgaaGreatDoor
