/-
  Slices that came in, read one by one; a row of no room may lie anywhere.
-/
import Derived.Test.YtgjnmpjimhbfgaaGreatDoorOpenP
import Derived.Test.YtgjnmpjimhbfgaaGreatDoorOpenE
import Derived.Deep.Slices
import Derived.Lib.SmallJoins
namespace Go.Proofs.YtgjnmpjimhbfgaaGreatDoor
set_option maxRecDepth 100000
open Go.RowKit Go.ChangeShapes Go.WideShapes Go.ChangeAt Go.Deep Go.Joins
end Go.Proofs.YtgjnmpjimhbfgaaGreatDoor
