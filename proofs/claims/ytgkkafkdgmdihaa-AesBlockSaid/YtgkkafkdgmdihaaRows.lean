/-
  No cell of these rows narrows 'for every input' (looked for: loops, veiled, ifaces, maps, wideKeys, modest, calm, conditions, laid).
  DERIVED. THE GIVEN ROWS OF THIS SEAT. 3 by the template 'for every input the law returns true; each argument reads behind the call as it read before'; 0 by the template 'total and deterministic' (their statements: YtgkkafkdgmdihaaTotals.lean).
  GIVEN WITH THE SEED: the statements are not yours to turn. If you find one false, say at which input.
  Laid BY PROGRAM, IN A SANDBOX (cutbox-rows.mjs): the forced cells as the released guide's own fill.sh prints them over the translation ac868f5db43f3c55… (all of the seat's roots in one cut). By AI agents, Wed Nov 11 2026. No macro, syntax, notation, axiom, sorry.
-/
import Derived.Test.YtgkkafkdgmdihaaChecked
import GoSem.Claim
import GoSem.ClaimJoined
import GoSem.ClaimMapViews
import Derived.JoinedTies
import Derived.KernelRfl
namespace Go.Proofs.Ytgkkafkdgmdihaa
/- THE CELL 'sum', in the pinned program and in every row, IS THE sha256 OF THE DUMP (.gsa) THAT YtgkkafkdgmdihaaProg.lean LOADS. Nothing in Lean hashes anything: it is a label: what it is worth is what the hold of that sum in a sandbox is worth. -/
noncomputable def Try.pinned : Pinned := { name := "ytgkkafkdgmdihaa", sum := "ac868f5db43f3c5540dbda0afb9f0e79c035bd15436ef11dd7a1f7efb150b77a", checked := Try.checked }
namespace Rows
def none {H : Type} : Left H := { results := [], args := [] }

/-- 'baileylaw5.AesBlock': WHATEVER THE INPUT: true; the input reads as it did. -/
def aesBlockSpec : ChangeSpec := { name := "aesBlock", fn := fun _ => fun
  | [d1, d2] => { results := [.lit (.bool true)], args := [d1, d2] }
  | _ => none }
def aesBlockRow : OpenClaim := { program := "ytgkkafkdgmdihaa", sum := "ac868f5db43f3c5540dbda0afb9f0e79c035bd15436ef11dd7a1f7efb150b77a", func := "bailey/baileylaw5.AesBlock", spec := "aesBlock", unfollowed := true, recurses := true, apart := false }
def AesBlockSaid : Prop := aesBlockRow.holds Try.pinned (OpenSpec.ofChange aesBlockSpec)

/-- ITS FALSE NEIGHBOUR: 'it returns false'. Refute it at one input. -/
def aesBlockWrong : ChangeSpec := { name := "aesBlock", fn := fun _ => fun
  | [d1, d2] => { results := [.lit (.bool false)], args := [d1, d2] }
  | _ => none }
def AesBlockWrongFalsely : Prop := aesBlockRow.holds Try.pinned (OpenSpec.ofChange aesBlockWrong)

/-- 'baileylaw5.AesBack': WHATEVER THE INPUT: true; the input reads as it did. -/
def aesBackSpec : ChangeSpec := { name := "aesBack", fn := fun _ => fun
  | [d1, d2] => { results := [.lit (.bool true)], args := [d1, d2] }
  | _ => none }
def aesBackRow : OpenClaim := { program := "ytgkkafkdgmdihaa", sum := "ac868f5db43f3c5540dbda0afb9f0e79c035bd15436ef11dd7a1f7efb150b77a", func := "bailey/baileylaw5.AesBack", spec := "aesBack", unfollowed := true, recurses := true, apart := false }
def AesBackSaid : Prop := aesBackRow.holds Try.pinned (OpenSpec.ofChange aesBackSpec)

/-- ITS FALSE NEIGHBOUR: 'it returns false'. Refute it at one input. -/
def aesBackWrong : ChangeSpec := { name := "aesBack", fn := fun _ => fun
  | [d1, d2] => { results := [.lit (.bool false)], args := [d1, d2] }
  | _ => none }
def AesBackWrongFalsely : Prop := aesBackRow.holds Try.pinned (OpenSpec.ofChange aesBackWrong)

/-- 'baileylaw5.AesField': WHATEVER THE INPUT: true; the input reads as it did. -/
def aesFieldSpec : ChangeSpec := { name := "aesField", fn := fun _ => fun
  | [d1, d2, d3] => { results := [.lit (.bool true)], args := [d1, d2, d3] }
  | _ => none }
def aesFieldRow : OpenClaim := { program := "ytgkkafkdgmdihaa", sum := "ac868f5db43f3c5540dbda0afb9f0e79c035bd15436ef11dd7a1f7efb150b77a", func := "bailey/baileylaw5.AesField", spec := "aesField", unfollowed := true, recurses := true, apart := false }
def AesFieldSaid : Prop := aesFieldRow.holds Try.pinned (OpenSpec.ofChange aesFieldSpec)

/-- ITS FALSE NEIGHBOUR: 'it returns false'. Refute it at one input. -/
def aesFieldWrong : ChangeSpec := { name := "aesField", fn := fun _ => fun
  | [d1, d2, d3] => { results := [.lit (.bool false)], args := [d1, d2, d3] }
  | _ => none }
def AesFieldWrongFalsely : Prop := aesFieldRow.holds Try.pinned (OpenSpec.ofChange aesFieldWrong)

/- THE SECOND FORM. 'bulk': how many values and letters a reading holds, each counted each time it is reached (what is shared counts as often as it is met; a slice's spare places count too). A statement '..UptoSaid' is the law's where the arguments, and the package variables that the reading takes, are together of bulk at most 1048576: NARROWER than '..Said'. Prove '..Said' where nothing that the law and all that it calls make is longer than what came in: it says more and counts as full. Else prove '..UptoSaid'. A law counts once. -/
mutual
def uptoBulk {H : Type} : DataW H → Nat
  | .lit (.string bytes) => bytes.length + 1
  | .lit _ => 1
  | .nil => 1
  | .ptr d => uptoBulk d + 1
  | .slice elems spare => uptoBulkAll elems + uptoBulkAll spare + 1
  | .agg parts => uptoBulkAll parts + 1
  | .iface _ d => uptoBulk d + 1
  | .map entries => uptoBulkEntries entries + 1
  | .held _ => 1
def uptoBulkAll {H : Type} : List (DataW H) → Nat
  | [] => 0
  | d :: r => uptoBulk d + uptoBulkAll r
def uptoBulkEntries {H : Type} : List (Lit × DataW H) → Nat
  | [] => 0
  | x :: r => uptoBulkEntry x + uptoBulkEntries r
def uptoBulkEntry {H : Type} : Lit × DataW H → Nat
  | (.string bytes, d) => bytes.length + uptoBulk d + 1
  | (_, d) => uptoBulk d + 1
 end
def uptoSmall : (H : Type) → List (DataW H) → Bool := fun _ ds => decide (uptoBulkAll ds ≤ 1048576)
def OpenSpec.upto (s : _root_.Go.ChangeSpec) : _root_.Go.OpenSpec := { _root_.Go.OpenSpec.ofChange s with cond := some uptoSmall }

/-- 'baileylaw5.AesBlock', WHERE WHAT IT READS IS OF BULK AT MOST 1048576: true; the input reads as it did. -/
def aesBlockUptoRow : OpenClaim := { program := "ytgkkafkdgmdihaa", sum := "ac868f5db43f3c5540dbda0afb9f0e79c035bd15436ef11dd7a1f7efb150b77a", func := "bailey/baileylaw5.AesBlock", spec := "aesBlock", unfollowed := true, recurses := true, apart := false, narrowed := true }
def AesBlockUptoSaid : Prop := aesBlockUptoRow.holds Try.pinned (OpenSpec.upto aesBlockSpec)

/-- 'baileylaw5.AesBack', WHERE WHAT IT READS IS OF BULK AT MOST 1048576: true; the input reads as it did. -/
def aesBackUptoRow : OpenClaim := { program := "ytgkkafkdgmdihaa", sum := "ac868f5db43f3c5540dbda0afb9f0e79c035bd15436ef11dd7a1f7efb150b77a", func := "bailey/baileylaw5.AesBack", spec := "aesBack", unfollowed := true, recurses := true, apart := false, narrowed := true }
def AesBackUptoSaid : Prop := aesBackUptoRow.holds Try.pinned (OpenSpec.upto aesBackSpec)

/-- 'baileylaw5.AesField', WHERE WHAT IT READS IS OF BULK AT MOST 1048576: true; the input reads as it did. -/
def aesFieldUptoRow : OpenClaim := { program := "ytgkkafkdgmdihaa", sum := "ac868f5db43f3c5540dbda0afb9f0e79c035bd15436ef11dd7a1f7efb150b77a", func := "bailey/baileylaw5.AesField", spec := "aesField", unfollowed := true, recurses := true, apart := false, narrowed := true }
def AesFieldUptoSaid : Prop := aesFieldUptoRow.holds Try.pinned (OpenSpec.upto aesFieldSpec)

end Rows
end Go.Proofs.Ytgkkafkdgmdihaa
