/-
  A slice that came in, whatever its elements.
-/
import Derived.Test.YtgjnmpjimhbfgaaGreatDoorZzRowK
import Derived.Test.YtgjnmpjimhbfgaaGreatDoorLift
import Derived.Deep.Slices
namespace Go.Proofs.YtgjnmpjimhbfgaaGreatDoor
set_option maxRecDepth 100000
open Go.RowKit Go.ChangeShapes Go.WideShapes Go.ChangeAt Go.Deep
end Go.Proofs.YtgjnmpjimhbfgaaGreatDoor
