/-
  begun of the AES laws: one block is told.
-/
import Derived.Test.YtgjnmpjimhbfgaaGreatDoorZzAesBx
import Derived.Test.YtgjnmpjimhbfgaaGreatDoorZzAes4
import Derived.Lib.SlBytesConst
namespace Go.Proofs.YtgjnmpjimhbfgaaGreatDoor
set_option maxRecDepth 100000
open Go.RowKit
attribute [local go_sem] Oper.semAt_some
end Go.Proofs.YtgjnmpjimhbfgaaGreatDoor
