/-
  NARROWER THAN 'FOR EVERY INPUT', by the rows' own cells (each row's printed sentence says how): DerWrite: loops · DerNumbers: loops.
  DERIVED. THE GIVEN ROWS OF THIS SEAT. 5 by the template 'for every input the law returns true; each argument reads behind the call as it read before'; 0 by the template 'total and deterministic' (their statements: YtgkhhinjdojbhaaTotals.lean).
  GIVEN WITH THE SEED: the statements are not yours to turn. If you find one false, say at which input.
  Laid BY PROGRAM, IN A SANDBOX (cutbox-rows.mjs): the forced cells as the released guide's own fill.sh prints them over the translation 397b66bed1373cc6… (all of the seat's roots in one cut). By AI agents, Wed Nov 11 2026. No macro, syntax, notation, axiom, sorry.
-/
import Derived.Test.YtgkhhinjdojbhaaChecked
import GoSem.Claim
import GoSem.ClaimJoined
import GoSem.ClaimMapViews
import Derived.JoinedTies
import Derived.KernelRfl
namespace Go.Proofs.Ytgkhhinjdojbhaa
/- THE CELL 'sum', in the pinned program and in every row, IS THE sha256 OF THE DUMP (.gsa) THAT YtgkhhinjdojbhaaProg.lean LOADS. Nothing in Lean hashes anything: it is a label: what it is worth is what the hold of that sum in a sandbox is worth. -/
noncomputable def Try.pinned : Pinned := { name := "ytgkhhinjdojbhaa", sum := "397b66bed1373cc611d28deb51195c5b0557f414c22b3c50f3c80aa6130c4be0", checked := Try.checked }
namespace Rows
def none {H : Type} : Left H := { results := [], args := [] }

/-- 'baileylaw11.DerWrite': WHATEVER THE INPUT: true; the input reads as it did. -/
def derWriteSpec : ChangeSpec := { name := "derWrite", fn := fun _ => fun
  | [d1, d2] => { results := [.lit (.bool true)], args := [d1, d2] }
  | _ => none }
def derWriteRow : OpenClaim := { program := "ytgkhhinjdojbhaa", sum := "397b66bed1373cc611d28deb51195c5b0557f414c22b3c50f3c80aa6130c4be0", func := "bailey/baileylaw11.DerWrite", spec := "derWrite", unfollowed := true, recurses := true, loops := true, apart := false }
def DerWriteSaid : Prop := derWriteRow.holds Try.pinned (OpenSpec.ofChange derWriteSpec)

/-- ITS FALSE NEIGHBOUR: 'it returns false'. Refute it at one input. -/
def derWriteWrong : ChangeSpec := { name := "derWrite", fn := fun _ => fun
  | [d1, d2] => { results := [.lit (.bool false)], args := [d1, d2] }
  | _ => none }
def DerWriteWrongFalsely : Prop := derWriteRow.holds Try.pinned (OpenSpec.ofChange derWriteWrong)

/-- 'baileylaw11.DerRead': WHATEVER THE INPUT: true; the input reads as it did. -/
def derReadSpec : ChangeSpec := { name := "derRead", fn := fun _ => fun
  | [d] => { results := [.lit (.bool true)], args := [d] }
  | _ => none }
def derReadRow : OpenClaim := { program := "ytgkhhinjdojbhaa", sum := "397b66bed1373cc611d28deb51195c5b0557f414c22b3c50f3c80aa6130c4be0", func := "bailey/baileylaw11.DerRead", spec := "derRead", unfollowed := true, recurses := true, apart := false }
def DerReadSaid : Prop := derReadRow.holds Try.pinned (OpenSpec.ofChange derReadSpec)

/-- ITS FALSE NEIGHBOUR: 'it returns false'. Refute it at one input. -/
def derReadWrong : ChangeSpec := { name := "derRead", fn := fun _ => fun
  | [d] => { results := [.lit (.bool false)], args := [d] }
  | _ => none }
def DerReadWrongFalsely : Prop := derReadRow.holds Try.pinned (OpenSpec.ofChange derReadWrong)

/-- 'baileylaw11.DerNumbers': WHATEVER THE INPUT: true; the input reads as it did. -/
def derNumbersSpec : ChangeSpec := { name := "derNumbers", fn := fun _ => fun
  | [d1, d2, d3] => { results := [.lit (.bool true)], args := [d1, d2, d3] }
  | _ => none }
def derNumbersRow : OpenClaim := { program := "ytgkhhinjdojbhaa", sum := "397b66bed1373cc611d28deb51195c5b0557f414c22b3c50f3c80aa6130c4be0", func := "bailey/baileylaw11.DerNumbers", spec := "derNumbers", unfollowed := true, recurses := true, loops := true, apart := false }
def DerNumbersSaid : Prop := derNumbersRow.holds Try.pinned (OpenSpec.ofChange derNumbersSpec)

/-- ITS FALSE NEIGHBOUR: 'it returns false'. Refute it at one input. -/
def derNumbersWrong : ChangeSpec := { name := "derNumbers", fn := fun _ => fun
  | [d1, d2, d3] => { results := [.lit (.bool false)], args := [d1, d2, d3] }
  | _ => none }
def DerNumbersWrongFalsely : Prop := derNumbersRow.holds Try.pinned (OpenSpec.ofChange derNumbersWrong)

/-- 'baileylaw11.DerMany': WHATEVER THE INPUT: true; the input reads as it did. -/
def derManySpec : ChangeSpec := { name := "derMany", fn := fun _ => fun
  | [d1, d2] => { results := [.lit (.bool true)], args := [d1, d2] }
  | _ => none }
def derManyRow : OpenClaim := { program := "ytgkhhinjdojbhaa", sum := "397b66bed1373cc611d28deb51195c5b0557f414c22b3c50f3c80aa6130c4be0", func := "bailey/baileylaw11.DerMany", spec := "derMany", unfollowed := true, recurses := true, apart := false }
def DerManySaid : Prop := derManyRow.holds Try.pinned (OpenSpec.ofChange derManySpec)

/-- ITS FALSE NEIGHBOUR: 'it returns false'. Refute it at one input. -/
def derManyWrong : ChangeSpec := { name := "derMany", fn := fun _ => fun
  | [d1, d2] => { results := [.lit (.bool false)], args := [d1, d2] }
  | _ => none }
def DerManyWrongFalsely : Prop := derManyRow.holds Try.pinned (OpenSpec.ofChange derManyWrong)

/-- 'baileylaw11.DerEdges': WHATEVER THE INPUT: true; the input reads as it did. -/
def derEdgesSpec : ChangeSpec := { name := "derEdges", fn := fun _ => fun
  | [d] => { results := [.lit (.bool true)], args := [d] }
  | _ => none }
def derEdgesRow : OpenClaim := { program := "ytgkhhinjdojbhaa", sum := "397b66bed1373cc611d28deb51195c5b0557f414c22b3c50f3c80aa6130c4be0", func := "bailey/baileylaw11.DerEdges", spec := "derEdges", unfollowed := true, recurses := true, apart := false }
def DerEdgesSaid : Prop := derEdgesRow.holds Try.pinned (OpenSpec.ofChange derEdgesSpec)

/-- ITS FALSE NEIGHBOUR: 'it returns false'. Refute it at one input. -/
def derEdgesWrong : ChangeSpec := { name := "derEdges", fn := fun _ => fun
  | [d] => { results := [.lit (.bool false)], args := [d] }
  | _ => none }
def DerEdgesWrongFalsely : Prop := derEdgesRow.holds Try.pinned (OpenSpec.ofChange derEdgesWrong)

/- THE SECOND FORM. 'bulk': how many values and letters a reading holds, each counted each time it is reached (what is shared counts as often as it is met; a slice's spare places count too). A statement '..UptoSaid' is the law's where the arguments, and the package variables that the reading takes, are together of bulk at most 1048576: NARROWER than '..Said'. Prove '..Said' where nothing that the law and all that it calls make is longer than what came in: it says more and counts as full. Else prove '..UptoSaid'. A law counts once. -/
mutual
def uptoBulk {H : Type} : DataW H → Nat
  | .lit (.string bytes) => bytes.length + 1
  | .lit _ => 1
  | .nil => 1
  | .ptr d => uptoBulk d + 1
  | .slice elems spare => uptoBulkAll elems + uptoBulkAll spare + 1
  | .agg parts => uptoBulkAll parts + 1
  | .iface _ d => uptoBulk d + 1
  | .map entries => uptoBulkEntries entries + 1
  | .held _ => 1
def uptoBulkAll {H : Type} : List (DataW H) → Nat
  | [] => 0
  | d :: r => uptoBulk d + uptoBulkAll r
def uptoBulkEntries {H : Type} : List (Lit × DataW H) → Nat
  | [] => 0
  | x :: r => uptoBulkEntry x + uptoBulkEntries r
def uptoBulkEntry {H : Type} : Lit × DataW H → Nat
  | (.string bytes, d) => bytes.length + uptoBulk d + 1
  | (_, d) => uptoBulk d + 1
 end
def uptoSmall : (H : Type) → List (DataW H) → Bool := fun _ ds => decide (uptoBulkAll ds ≤ 1048576)
def OpenSpec.upto (s : _root_.Go.ChangeSpec) : _root_.Go.OpenSpec := { _root_.Go.OpenSpec.ofChange s with cond := some uptoSmall }

/-- 'baileylaw11.DerWrite', WHERE WHAT IT READS IS OF BULK AT MOST 1048576: true; the input reads as it did. -/
def derWriteUptoRow : OpenClaim := { program := "ytgkhhinjdojbhaa", sum := "397b66bed1373cc611d28deb51195c5b0557f414c22b3c50f3c80aa6130c4be0", func := "bailey/baileylaw11.DerWrite", spec := "derWrite", unfollowed := true, recurses := true, loops := true, apart := false, narrowed := true }
def DerWriteUptoSaid : Prop := derWriteUptoRow.holds Try.pinned (OpenSpec.upto derWriteSpec)

/-- 'baileylaw11.DerRead', WHERE WHAT IT READS IS OF BULK AT MOST 1048576: true; the input reads as it did. -/
def derReadUptoRow : OpenClaim := { program := "ytgkhhinjdojbhaa", sum := "397b66bed1373cc611d28deb51195c5b0557f414c22b3c50f3c80aa6130c4be0", func := "bailey/baileylaw11.DerRead", spec := "derRead", unfollowed := true, recurses := true, apart := false, narrowed := true }
def DerReadUptoSaid : Prop := derReadUptoRow.holds Try.pinned (OpenSpec.upto derReadSpec)

/-- 'baileylaw11.DerNumbers', WHERE WHAT IT READS IS OF BULK AT MOST 1048576: true; the input reads as it did. -/
def derNumbersUptoRow : OpenClaim := { program := "ytgkhhinjdojbhaa", sum := "397b66bed1373cc611d28deb51195c5b0557f414c22b3c50f3c80aa6130c4be0", func := "bailey/baileylaw11.DerNumbers", spec := "derNumbers", unfollowed := true, recurses := true, loops := true, apart := false, narrowed := true }
def DerNumbersUptoSaid : Prop := derNumbersUptoRow.holds Try.pinned (OpenSpec.upto derNumbersSpec)

/-- 'baileylaw11.DerMany', WHERE WHAT IT READS IS OF BULK AT MOST 1048576: true; the input reads as it did. -/
def derManyUptoRow : OpenClaim := { program := "ytgkhhinjdojbhaa", sum := "397b66bed1373cc611d28deb51195c5b0557f414c22b3c50f3c80aa6130c4be0", func := "bailey/baileylaw11.DerMany", spec := "derMany", unfollowed := true, recurses := true, apart := false, narrowed := true }
def DerManyUptoSaid : Prop := derManyUptoRow.holds Try.pinned (OpenSpec.upto derManySpec)

/-- 'baileylaw11.DerEdges', WHERE WHAT IT READS IS OF BULK AT MOST 1048576: true; the input reads as it did. -/
def derEdgesUptoRow : OpenClaim := { program := "ytgkhhinjdojbhaa", sum := "397b66bed1373cc611d28deb51195c5b0557f414c22b3c50f3c80aa6130c4be0", func := "bailey/baileylaw11.DerEdges", spec := "derEdges", unfollowed := true, recurses := true, apart := false, narrowed := true }
def DerEdgesUptoSaid : Prop := derEdgesUptoRow.holds Try.pinned (OpenSpec.upto derEdgesSpec)

end Rows
end Go.Proofs.Ytgkhhinjdojbhaa
