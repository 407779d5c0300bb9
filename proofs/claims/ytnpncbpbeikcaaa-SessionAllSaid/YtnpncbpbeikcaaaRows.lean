/-
  No cell of these rows narrows 'for every input' (looked for: loops, veiled, ifaces, maps, wideKeys, modest, calm, conditions, laid).
  DERIVED. THE GIVEN ROWS OF THIS SEAT. 3 by the template 'for every input the law returns true; each argument reads behind the call as it read before'; 0 by the template 'total and deterministic' (their statements: YtnpncbpbeikcaaaTotals.lean).
  GIVEN WITH THE SEED: the statements are not yours to turn. If you find one false, say at which input.
  Laid BY PROGRAM, IN A SANDBOX (cutbox-rows.mjs): the forced cells as the released guide's own fill.sh prints them over the translation 67c59588f1840f4e… (all of the seat's roots in one cut). By AI agents, Wed Nov 11 2026. No macro, syntax, notation, axiom, sorry.
-/
import Derived.Test.YtnpncbpbeikcaaaChecked
import GoSem.Claim
import GoSem.ClaimJoined
import GoSem.ClaimMapViews
import Derived.JoinedTies
import Derived.KernelRfl
namespace Go.Proofs.Ytnpncbpbeikcaaa
/- THE CELL 'sum', in the pinned program and in every row, IS THE sha256 OF THE DUMP (.gsa) THAT YtnpncbpbeikcaaaProg.lean LOADS. Nothing in Lean hashes anything: it is a label: what it is worth is what the hold of that sum in a sandbox is worth. -/
noncomputable def Try.pinned : Pinned := { name := "ytnpncbpbeikcaaa", sum := "67c59588f1840f4e938285f55e2f2de0e2143cc4be149b3255256c1b6d359245", checked := Try.checked }
namespace Rows
def none {H : Type} : Left H := { results := [], args := [] }

/-- 'baileylaw22.SessionAll': WHATEVER THE INPUT: true; the input reads as it did. -/
def sessionAllSpec : ChangeSpec := { name := "sessionAll", fn := fun _ => fun
  | [d] => { results := [.lit (.bool true)], args := [d] }
  | _ => none }
def sessionAllRow : OpenClaim := { program := "ytnpncbpbeikcaaa", sum := "67c59588f1840f4e938285f55e2f2de0e2143cc4be149b3255256c1b6d359245", func := "bailey/baileylaw22.SessionAll", spec := "sessionAll", unfollowed := true, recurses := true, plainKeys := false, apart := false }
def SessionAllSaid : Prop := sessionAllRow.holds Try.pinned (OpenSpec.ofChange sessionAllSpec)

/-- ITS FALSE NEIGHBOUR: 'it returns false'. Refute it at one input. -/
def sessionAllWrong : ChangeSpec := { name := "sessionAll", fn := fun _ => fun
  | [d] => { results := [.lit (.bool false)], args := [d] }
  | _ => none }
def SessionAllWrongFalsely : Prop := sessionAllRow.holds Try.pinned (OpenSpec.ofChange sessionAllWrong)

/-- 'baileylaw22.SessionApart': WHATEVER THE INPUT: true; the input reads as it did. -/
def sessionApartSpec : ChangeSpec := { name := "sessionApart", fn := fun _ => fun
  | [d] => { results := [.lit (.bool true)], args := [d] }
  | _ => none }
def sessionApartRow : OpenClaim := { program := "ytnpncbpbeikcaaa", sum := "67c59588f1840f4e938285f55e2f2de0e2143cc4be149b3255256c1b6d359245", func := "bailey/baileylaw22.SessionApart", spec := "sessionApart", unfollowed := true, recurses := true, plainKeys := false, apart := false }
def SessionApartSaid : Prop := sessionApartRow.holds Try.pinned (OpenSpec.ofChange sessionApartSpec)

/-- ITS FALSE NEIGHBOUR: 'it returns false'. Refute it at one input. -/
def sessionApartWrong : ChangeSpec := { name := "sessionApart", fn := fun _ => fun
  | [d] => { results := [.lit (.bool false)], args := [d] }
  | _ => none }
def SessionApartWrongFalsely : Prop := sessionApartRow.holds Try.pinned (OpenSpec.ofChange sessionApartWrong)

/-- 'baileylaw22.SessionNone': WHATEVER THE INPUT: true; the input reads as it did. -/
def sessionNoneSpec : ChangeSpec := { name := "sessionNone", fn := fun _ => fun
  | [] => { results := [.lit (.bool true)], args := [] }
  | _ => none }
def sessionNoneRow : OpenClaim := { program := "ytnpncbpbeikcaaa", sum := "67c59588f1840f4e938285f55e2f2de0e2143cc4be149b3255256c1b6d359245", func := "bailey/baileylaw22.SessionNone", spec := "sessionNone", unfollowed := true, recurses := true, plainKeys := false, apart := false }
def SessionNoneSaid : Prop := sessionNoneRow.holds Try.pinned (OpenSpec.ofChange sessionNoneSpec)

/-- ITS FALSE NEIGHBOUR: 'it returns false'. Refute it at one input. -/
def sessionNoneWrong : ChangeSpec := { name := "sessionNone", fn := fun _ => fun
  | [] => { results := [.lit (.bool false)], args := [] }
  | _ => none }
def SessionNoneWrongFalsely : Prop := sessionNoneRow.holds Try.pinned (OpenSpec.ofChange sessionNoneWrong)

/- THE SECOND FORM. 'bulk': how many values and letters a reading holds, each counted each time it is reached (what is shared counts as often as it is met; a slice's spare places count too). A statement '..UptoSaid' is the law's where the arguments, and the package variables that the reading takes, are together of bulk at most 1048576: NARROWER than '..Said'. Prove '..Said' where nothing that the law and all that it calls make is longer than what came in: it says more and counts as full. Else prove '..UptoSaid'. A law counts once. -/
mutual
def uptoBulk {H : Type} : DataW H → Nat
  | .lit (.string bytes) => bytes.length + 1
  | .lit _ => 1
  | .nil => 1
  | .ptr d => uptoBulk d + 1
  | .slice elems spare => uptoBulkAll elems + uptoBulkAll spare + 1
  | .agg parts => uptoBulkAll parts + 1
  | .iface _ d => uptoBulk d + 1
  | .map entries => uptoBulkEntries entries + 1
  | .held _ => 1
def uptoBulkAll {H : Type} : List (DataW H) → Nat
  | [] => 0
  | d :: r => uptoBulk d + uptoBulkAll r
def uptoBulkEntries {H : Type} : List (Lit × DataW H) → Nat
  | [] => 0
  | x :: r => uptoBulkEntry x + uptoBulkEntries r
def uptoBulkEntry {H : Type} : Lit × DataW H → Nat
  | (.string bytes, d) => bytes.length + uptoBulk d + 1
  | (_, d) => uptoBulk d + 1
 end
def uptoSmall : (H : Type) → List (DataW H) → Bool := fun _ ds => decide (uptoBulkAll ds ≤ 1048576)
def OpenSpec.upto (s : _root_.Go.ChangeSpec) : _root_.Go.OpenSpec := { _root_.Go.OpenSpec.ofChange s with cond := some uptoSmall }

/-- 'baileylaw22.SessionAll', WHERE WHAT IT READS IS OF BULK AT MOST 1048576: true; the input reads as it did. -/
def sessionAllUptoRow : OpenClaim := { program := "ytnpncbpbeikcaaa", sum := "67c59588f1840f4e938285f55e2f2de0e2143cc4be149b3255256c1b6d359245", func := "bailey/baileylaw22.SessionAll", spec := "sessionAll", unfollowed := true, recurses := true, plainKeys := false, apart := false, narrowed := true }
def SessionAllUptoSaid : Prop := sessionAllUptoRow.holds Try.pinned (OpenSpec.upto sessionAllSpec)

/-- 'baileylaw22.SessionApart', WHERE WHAT IT READS IS OF BULK AT MOST 1048576: true; the input reads as it did. -/
def sessionApartUptoRow : OpenClaim := { program := "ytnpncbpbeikcaaa", sum := "67c59588f1840f4e938285f55e2f2de0e2143cc4be149b3255256c1b6d359245", func := "bailey/baileylaw22.SessionApart", spec := "sessionApart", unfollowed := true, recurses := true, plainKeys := false, apart := false, narrowed := true }
def SessionApartUptoSaid : Prop := sessionApartUptoRow.holds Try.pinned (OpenSpec.upto sessionApartSpec)

/-- 'baileylaw22.SessionNone', WHERE WHAT IT READS IS OF BULK AT MOST 1048576: true; the input reads as it did. -/
def sessionNoneUptoRow : OpenClaim := { program := "ytnpncbpbeikcaaa", sum := "67c59588f1840f4e938285f55e2f2de0e2143cc4be149b3255256c1b6d359245", func := "bailey/baileylaw22.SessionNone", spec := "sessionNone", unfollowed := true, recurses := true, plainKeys := false, apart := false, narrowed := true }
def SessionNoneUptoSaid : Prop := sessionNoneUptoRow.holds Try.pinned (OpenSpec.upto sessionNoneSpec)

end Rows
end Go.Proofs.Ytnpncbpbeikcaaa
