/-
  A slice of slices of bytes that came in: rows of bytes; a row of no room may lie anywhere.
-/
import Derived.Test.YtgkhhinjdojbhaaLift
import Derived.Deep.Matrix
import Derived.Test.YtgkhhinjdojbhaaReg
namespace Go.Proofs.Ytgkhhinjdojbhaa
open Go.RowKit Go.ChangeShapes Go.WideShapes Go.ChangeAt

/-- One row: read, or of no room. -/
def RdE (w : World) (A : Option Addr) (m c : Nat) (l : List UInt8) : Prop := Rd w A m c l ∨ (m = 0 ∧ c = 0 ∧ l = [])
def RowsAt (w : World) (A : Option Addr) (m : Nat) (ls : List (List UInt8)) : Prop :=
  ls.length = m ∧ (m = 0 ∨ ∃ b off, A = some ⟨b, off, none⟩ ∧ b < w.heap.size ∧ ∀ (j : Nat) (l : List UInt8), ls[j]? = some l → ∃ Aj mj cj, w.cell? ⟨b, off + j, none⟩ = some (.slice Aj mj cj) ∧ RdE w Aj mj cj l)
theorem RdE.below {w w' : World} {A : Option Addr} {m c : Nat} {l : List UInt8} (h : RdE w A m c l) (hb : Old w w') : RdE w' A m c l := h.imp (fun h => h.below hb) id
section
variable {H : Type} {enc : TypeId × Value → H}
end
end Go.Proofs.Ytgkhhinjdojbhaa
