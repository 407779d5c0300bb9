/-
  The writer of frames: a number in so many bytes; bytes behind their length.
-/
import Derived.Test.YtnpncbpbeikcaaaOwnR
import Derived.Test.YtnpncbpbeikcaaaAppK
import Derived.Test.YtnpncbpbeikcaaaShort
import Derived.StillTailTactics
namespace Go.Proofs.Ytnpncbpbeikcaaa
open Go.RowKit

theorem region_turn {P : Program} {ops : Array Oper} {Q : Exit → Act → World → Prop} {id : Nat} {a : Act} {w : World} (S : List Nat) (hm : P.follows .mixedOrders = true)
    (h : ∀ wd, Old w wd → Turn S w wd → w.heap.size = wd.heap.size → wpAnyH P .any ops (NoPanic Q) (Turn S w) ops.size (Array.replicate ops.size false) a wd) : (Code.region id ops true).wp P Q a w :=
  wp_region_noPanic (wp_region_held_drew hm (Turn.of_below S (Old.drew (Old.refl w))) (fun hS => h _ (Old.drew (Old.refl w)) hS rfl))
/-- What is in S' is in S, or new. -/
def InOr (S S' : List Nat) (n : Nat) : Prop := ∀ x ∈ S', x ∈ S ∨ n ≤ x
/-- A number in so many bytes. -/
def num (n size : Nat) : List UInt8 := (bytes64 (UInt64.ofNat n)).drop (8 - size)
theorem num_len (n size : Nat) (h : size ≤ 8) : (num n size).length = size := by unfold num; rw [List.length_drop]; simp [bytes64]; omega
/-- What a number leaves of bytes and of the mark. -/
def putL (l : List UInt8) (n : Int) (size : Nat) (most : Int) : List UInt8 := if n < 0 ∨ most < n then l else l ++ num n.toNat size
def putB (bad : Bool) (n most : Int) : Bool := if n < 0 ∨ most < n then true else bad
end Go.Proofs.Ytnpncbpbeikcaaa
