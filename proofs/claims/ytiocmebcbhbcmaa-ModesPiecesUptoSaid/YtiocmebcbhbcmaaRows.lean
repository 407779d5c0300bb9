/-
  No cell of these rows narrows 'for every input' (looked for: loops, veiled, ifaces, maps, wideKeys, modest, calm, conditions, laid).
  DERIVED. THE GIVEN ROWS OF THIS SEAT. 8 by the template 'for every input the law returns true; each argument reads behind the call as it read before'; 0 by the template 'total and deterministic' (their statements: YtiocmebcbhbcmaaTotals.lean).
  GIVEN WITH THE SEED: the statements are not yours to turn. If you find one false, say at which input.
  Laid BY PROGRAM, IN A SANDBOX (cutbox-rows.mjs): the forced cells as the released guide's own fill.sh prints them over the translation 22a1455535522e45… (all of the seat's roots in one cut). By AI agents, Wed Nov 11 2026. No macro, syntax, notation, axiom, sorry.
-/
import Derived.Test.YtiocmebcbhbcmaaChecked
import GoSem.Claim
import GoSem.ClaimJoined
import GoSem.ClaimMapViews
import Derived.JoinedTies
import Derived.KernelRfl
namespace Go.Proofs.Ytiocmebcbhbcmaa
/- THE CELL 'sum', in the pinned program and in every row, IS THE sha256 OF THE DUMP (.gsa) THAT YtiocmebcbhbcmaaProg.lean LOADS. Nothing in Lean hashes anything: it is a label: what it is worth is what the hold of that sum in a sandbox is worth. -/
noncomputable def Try.pinned : Pinned := { name := "ytiocmebcbhbcmaa", sum := "22a1455535522e45ad42bbb6be766fd8271efbddecb783f600143b10d1b15385", checked := Try.checked }
namespace Rows
def none {H : Type} : Left H := { results := [], args := [] }

/-- 'baileylaw6.ModesAll': WHATEVER THE INPUT: true; the input reads as it did. -/
def modesAllSpec : ChangeSpec := { name := "modesAll", fn := fun _ => fun
  | [d1, d2, d3, d4, d5] => { results := [.lit (.bool true)], args := [d1, d2, d3, d4, d5] }
  | _ => none }
def modesAllRow : OpenClaim := { program := "ytiocmebcbhbcmaa", sum := "22a1455535522e45ad42bbb6be766fd8271efbddecb783f600143b10d1b15385", func := "bailey/baileylaw6.ModesAll", spec := "modesAll", inPlace := ["internal/bytealg.MakeNoZero"], unfollowed := true, recurses := true, apart := false }
def ModesAllSaid : Prop := modesAllRow.holds Try.pinned (OpenSpec.ofChange modesAllSpec)

/-- ITS FALSE NEIGHBOUR: 'it returns false'. Refute it at one input. -/
def modesAllWrong : ChangeSpec := { name := "modesAll", fn := fun _ => fun
  | [d1, d2, d3, d4, d5] => { results := [.lit (.bool false)], args := [d1, d2, d3, d4, d5] }
  | _ => none }
def ModesAllWrongFalsely : Prop := modesAllRow.holds Try.pinned (OpenSpec.ofChange modesAllWrong)

/-- 'baileylaw6.ModesStream': WHATEVER THE INPUT: true; the input reads as it did. -/
def modesStreamSpec : ChangeSpec := { name := "modesStream", fn := fun _ => fun
  | [d1, d2, d3, d4, d5] => { results := [.lit (.bool true)], args := [d1, d2, d3, d4, d5] }
  | _ => none }
def modesStreamRow : OpenClaim := { program := "ytiocmebcbhbcmaa", sum := "22a1455535522e45ad42bbb6be766fd8271efbddecb783f600143b10d1b15385", func := "bailey/baileylaw6.ModesStream", spec := "modesStream", inPlace := ["internal/bytealg.MakeNoZero"], unfollowed := true, recurses := true, apart := false }
def ModesStreamSaid : Prop := modesStreamRow.holds Try.pinned (OpenSpec.ofChange modesStreamSpec)

/-- ITS FALSE NEIGHBOUR: 'it returns false'. Refute it at one input. -/
def modesStreamWrong : ChangeSpec := { name := "modesStream", fn := fun _ => fun
  | [d1, d2, d3, d4, d5] => { results := [.lit (.bool false)], args := [d1, d2, d3, d4, d5] }
  | _ => none }
def ModesStreamWrongFalsely : Prop := modesStreamRow.holds Try.pinned (OpenSpec.ofChange modesStreamWrong)

/-- 'baileylaw6.ModesBack': WHATEVER THE INPUT: true; the input reads as it did. -/
def modesBackSpec : ChangeSpec := { name := "modesBack", fn := fun _ => fun
  | [d1, d2, d3, d4] => { results := [.lit (.bool true)], args := [d1, d2, d3, d4] }
  | _ => none }
def modesBackRow : OpenClaim := { program := "ytiocmebcbhbcmaa", sum := "22a1455535522e45ad42bbb6be766fd8271efbddecb783f600143b10d1b15385", func := "bailey/baileylaw6.ModesBack", spec := "modesBack", inPlace := ["internal/bytealg.MakeNoZero"], unfollowed := true, recurses := true, apart := false }
def ModesBackSaid : Prop := modesBackRow.holds Try.pinned (OpenSpec.ofChange modesBackSpec)

/-- ITS FALSE NEIGHBOUR: 'it returns false'. Refute it at one input. -/
def modesBackWrong : ChangeSpec := { name := "modesBack", fn := fun _ => fun
  | [d1, d2, d3, d4] => { results := [.lit (.bool false)], args := [d1, d2, d3, d4] }
  | _ => none }
def ModesBackWrongFalsely : Prop := modesBackRow.holds Try.pinned (OpenSpec.ofChange modesBackWrong)

/-- 'baileylaw6.ModesForged': WHATEVER THE INPUT: true; the input reads as it did. -/
def modesForgedSpec : ChangeSpec := { name := "modesForged", fn := fun _ => fun
  | [d1, d2, d3, d4, d5, d6] => { results := [.lit (.bool true)], args := [d1, d2, d3, d4, d5, d6] }
  | _ => none }
def modesForgedRow : OpenClaim := { program := "ytiocmebcbhbcmaa", sum := "22a1455535522e45ad42bbb6be766fd8271efbddecb783f600143b10d1b15385", func := "bailey/baileylaw6.ModesForged", spec := "modesForged", inPlace := ["internal/bytealg.MakeNoZero"], unfollowed := true, recurses := true, apart := false }
def ModesForgedSaid : Prop := modesForgedRow.holds Try.pinned (OpenSpec.ofChange modesForgedSpec)

/-- ITS FALSE NEIGHBOUR: 'it returns false'. Refute it at one input. -/
def modesForgedWrong : ChangeSpec := { name := "modesForged", fn := fun _ => fun
  | [d1, d2, d3, d4, d5, d6] => { results := [.lit (.bool false)], args := [d1, d2, d3, d4, d5, d6] }
  | _ => none }
def ModesForgedWrongFalsely : Prop := modesForgedRow.holds Try.pinned (OpenSpec.ofChange modesForgedWrong)

/-- 'baileylaw6.ModesCMAC': WHATEVER THE INPUT: true; the input reads as it did. -/
def modesCMACSpec : ChangeSpec := { name := "modesCMAC", fn := fun _ => fun
  | [d1, d2] => { results := [.lit (.bool true)], args := [d1, d2] }
  | _ => none }
def modesCMACRow : OpenClaim := { program := "ytiocmebcbhbcmaa", sum := "22a1455535522e45ad42bbb6be766fd8271efbddecb783f600143b10d1b15385", func := "bailey/baileylaw6.ModesCMAC", spec := "modesCMAC", inPlace := ["internal/bytealg.MakeNoZero"], unfollowed := true, recurses := true, apart := false }
def ModesCMACSaid : Prop := modesCMACRow.holds Try.pinned (OpenSpec.ofChange modesCMACSpec)

/-- ITS FALSE NEIGHBOUR: 'it returns false'. Refute it at one input. -/
def modesCMACWrong : ChangeSpec := { name := "modesCMAC", fn := fun _ => fun
  | [d1, d2] => { results := [.lit (.bool false)], args := [d1, d2] }
  | _ => none }
def ModesCMACWrongFalsely : Prop := modesCMACRow.holds Try.pinned (OpenSpec.ofChange modesCMACWrong)

/-- 'baileylaw6.ModesPieces': WHATEVER THE INPUT: true; the input reads as it did. -/
def modesPiecesSpec : ChangeSpec := { name := "modesPieces", fn := fun _ => fun
  | [d1, d2, d3, d4, d5] => { results := [.lit (.bool true)], args := [d1, d2, d3, d4, d5] }
  | _ => none }
def modesPiecesRow : OpenClaim := { program := "ytiocmebcbhbcmaa", sum := "22a1455535522e45ad42bbb6be766fd8271efbddecb783f600143b10d1b15385", func := "bailey/baileylaw6.ModesPieces", spec := "modesPieces", inPlace := ["internal/bytealg.MakeNoZero"], unfollowed := true, recurses := true, apart := false }
def ModesPiecesSaid : Prop := modesPiecesRow.holds Try.pinned (OpenSpec.ofChange modesPiecesSpec)

/-- ITS FALSE NEIGHBOUR: 'it returns false'. Refute it at one input. -/
def modesPiecesWrong : ChangeSpec := { name := "modesPieces", fn := fun _ => fun
  | [d1, d2, d3, d4, d5] => { results := [.lit (.bool false)], args := [d1, d2, d3, d4, d5] }
  | _ => none }
def ModesPiecesWrongFalsely : Prop := modesPiecesRow.holds Try.pinned (OpenSpec.ofChange modesPiecesWrong)

/-- 'baileylaw6.ModesNone': WHATEVER THE INPUT: true; the input reads as it did. -/
def modesNoneSpec : ChangeSpec := { name := "modesNone", fn := fun _ => fun
  | [] => { results := [.lit (.bool true)], args := [] }
  | _ => none }
def modesNoneRow : OpenClaim := { program := "ytiocmebcbhbcmaa", sum := "22a1455535522e45ad42bbb6be766fd8271efbddecb783f600143b10d1b15385", func := "bailey/baileylaw6.ModesNone", spec := "modesNone", inPlace := ["internal/bytealg.MakeNoZero"], unfollowed := true, recurses := true, apart := false }
def ModesNoneSaid : Prop := modesNoneRow.holds Try.pinned (OpenSpec.ofChange modesNoneSpec)

/-- ITS FALSE NEIGHBOUR: 'it returns false'. Refute it at one input. -/
def modesNoneWrong : ChangeSpec := { name := "modesNone", fn := fun _ => fun
  | [] => { results := [.lit (.bool false)], args := [] }
  | _ => none }
def ModesNoneWrongFalsely : Prop := modesNoneRow.holds Try.pinned (OpenSpec.ofChange modesNoneWrong)

/-- 'baileylaw6.ModesWrap': WHATEVER THE INPUT: true; the input reads as it did. -/
def modesWrapSpec : ChangeSpec := { name := "modesWrap", fn := fun _ => fun
  | [d1, d2] => { results := [.lit (.bool true)], args := [d1, d2] }
  | _ => none }
def modesWrapRow : OpenClaim := { program := "ytiocmebcbhbcmaa", sum := "22a1455535522e45ad42bbb6be766fd8271efbddecb783f600143b10d1b15385", func := "bailey/baileylaw6.ModesWrap", spec := "modesWrap", inPlace := ["internal/bytealg.MakeNoZero"], unfollowed := true, recurses := true, apart := false }
def ModesWrapSaid : Prop := modesWrapRow.holds Try.pinned (OpenSpec.ofChange modesWrapSpec)

/-- ITS FALSE NEIGHBOUR: 'it returns false'. Refute it at one input. -/
def modesWrapWrong : ChangeSpec := { name := "modesWrap", fn := fun _ => fun
  | [d1, d2] => { results := [.lit (.bool false)], args := [d1, d2] }
  | _ => none }
def ModesWrapWrongFalsely : Prop := modesWrapRow.holds Try.pinned (OpenSpec.ofChange modesWrapWrong)

/- THE SECOND FORM. 'bulk': how many values and letters a reading holds, each counted each time it is reached (what is shared counts as often as it is met; a slice's spare places count too). A statement '..UptoSaid' is the law's where the arguments, and the package variables that the reading takes, are together of bulk at most 1048576: NARROWER than '..Said'. Prove '..Said' where nothing that the law and all that it calls make is longer than what came in: it says more and counts as full. Else prove '..UptoSaid'. A law counts once. -/
mutual
def uptoBulk {H : Type} : DataW H → Nat
  | .lit (.string bytes) => bytes.length + 1
  | .lit _ => 1
  | .nil => 1
  | .ptr d => uptoBulk d + 1
  | .slice elems spare => uptoBulkAll elems + uptoBulkAll spare + 1
  | .agg parts => uptoBulkAll parts + 1
  | .iface _ d => uptoBulk d + 1
  | .map entries => uptoBulkEntries entries + 1
  | .held _ => 1
def uptoBulkAll {H : Type} : List (DataW H) → Nat
  | [] => 0
  | d :: r => uptoBulk d + uptoBulkAll r
def uptoBulkEntries {H : Type} : List (Lit × DataW H) → Nat
  | [] => 0
  | x :: r => uptoBulkEntry x + uptoBulkEntries r
def uptoBulkEntry {H : Type} : Lit × DataW H → Nat
  | (.string bytes, d) => bytes.length + uptoBulk d + 1
  | (_, d) => uptoBulk d + 1
 end
def uptoSmall : (H : Type) → List (DataW H) → Bool := fun _ ds => decide (uptoBulkAll ds ≤ 1048576)
def OpenSpec.upto (s : _root_.Go.ChangeSpec) : _root_.Go.OpenSpec := { _root_.Go.OpenSpec.ofChange s with cond := some uptoSmall }

/-- 'baileylaw6.ModesAll', WHERE WHAT IT READS IS OF BULK AT MOST 1048576: true; the input reads as it did. -/
def modesAllUptoRow : OpenClaim := { program := "ytiocmebcbhbcmaa", sum := "22a1455535522e45ad42bbb6be766fd8271efbddecb783f600143b10d1b15385", func := "bailey/baileylaw6.ModesAll", spec := "modesAll", inPlace := ["internal/bytealg.MakeNoZero"], unfollowed := true, recurses := true, apart := false, narrowed := true }
def ModesAllUptoSaid : Prop := modesAllUptoRow.holds Try.pinned (OpenSpec.upto modesAllSpec)

/-- 'baileylaw6.ModesStream', WHERE WHAT IT READS IS OF BULK AT MOST 1048576: true; the input reads as it did. -/
def modesStreamUptoRow : OpenClaim := { program := "ytiocmebcbhbcmaa", sum := "22a1455535522e45ad42bbb6be766fd8271efbddecb783f600143b10d1b15385", func := "bailey/baileylaw6.ModesStream", spec := "modesStream", inPlace := ["internal/bytealg.MakeNoZero"], unfollowed := true, recurses := true, apart := false, narrowed := true }
def ModesStreamUptoSaid : Prop := modesStreamUptoRow.holds Try.pinned (OpenSpec.upto modesStreamSpec)

/-- 'baileylaw6.ModesBack', WHERE WHAT IT READS IS OF BULK AT MOST 1048576: true; the input reads as it did. -/
def modesBackUptoRow : OpenClaim := { program := "ytiocmebcbhbcmaa", sum := "22a1455535522e45ad42bbb6be766fd8271efbddecb783f600143b10d1b15385", func := "bailey/baileylaw6.ModesBack", spec := "modesBack", inPlace := ["internal/bytealg.MakeNoZero"], unfollowed := true, recurses := true, apart := false, narrowed := true }
def ModesBackUptoSaid : Prop := modesBackUptoRow.holds Try.pinned (OpenSpec.upto modesBackSpec)

/-- 'baileylaw6.ModesForged', WHERE WHAT IT READS IS OF BULK AT MOST 1048576: true; the input reads as it did. -/
def modesForgedUptoRow : OpenClaim := { program := "ytiocmebcbhbcmaa", sum := "22a1455535522e45ad42bbb6be766fd8271efbddecb783f600143b10d1b15385", func := "bailey/baileylaw6.ModesForged", spec := "modesForged", inPlace := ["internal/bytealg.MakeNoZero"], unfollowed := true, recurses := true, apart := false, narrowed := true }
def ModesForgedUptoSaid : Prop := modesForgedUptoRow.holds Try.pinned (OpenSpec.upto modesForgedSpec)

/-- 'baileylaw6.ModesCMAC', WHERE WHAT IT READS IS OF BULK AT MOST 1048576: true; the input reads as it did. -/
def modesCMACUptoRow : OpenClaim := { program := "ytiocmebcbhbcmaa", sum := "22a1455535522e45ad42bbb6be766fd8271efbddecb783f600143b10d1b15385", func := "bailey/baileylaw6.ModesCMAC", spec := "modesCMAC", inPlace := ["internal/bytealg.MakeNoZero"], unfollowed := true, recurses := true, apart := false, narrowed := true }
def ModesCMACUptoSaid : Prop := modesCMACUptoRow.holds Try.pinned (OpenSpec.upto modesCMACSpec)

/-- 'baileylaw6.ModesPieces', WHERE WHAT IT READS IS OF BULK AT MOST 1048576: true; the input reads as it did. -/
def modesPiecesUptoRow : OpenClaim := { program := "ytiocmebcbhbcmaa", sum := "22a1455535522e45ad42bbb6be766fd8271efbddecb783f600143b10d1b15385", func := "bailey/baileylaw6.ModesPieces", spec := "modesPieces", inPlace := ["internal/bytealg.MakeNoZero"], unfollowed := true, recurses := true, apart := false, narrowed := true }
def ModesPiecesUptoSaid : Prop := modesPiecesUptoRow.holds Try.pinned (OpenSpec.upto modesPiecesSpec)

/-- 'baileylaw6.ModesNone', WHERE WHAT IT READS IS OF BULK AT MOST 1048576: true; the input reads as it did. -/
def modesNoneUptoRow : OpenClaim := { program := "ytiocmebcbhbcmaa", sum := "22a1455535522e45ad42bbb6be766fd8271efbddecb783f600143b10d1b15385", func := "bailey/baileylaw6.ModesNone", spec := "modesNone", inPlace := ["internal/bytealg.MakeNoZero"], unfollowed := true, recurses := true, apart := false, narrowed := true }
def ModesNoneUptoSaid : Prop := modesNoneUptoRow.holds Try.pinned (OpenSpec.upto modesNoneSpec)

/-- 'baileylaw6.ModesWrap', WHERE WHAT IT READS IS OF BULK AT MOST 1048576: true; the input reads as it did. -/
def modesWrapUptoRow : OpenClaim := { program := "ytiocmebcbhbcmaa", sum := "22a1455535522e45ad42bbb6be766fd8271efbddecb783f600143b10d1b15385", func := "bailey/baileylaw6.ModesWrap", spec := "modesWrap", inPlace := ["internal/bytealg.MakeNoZero"], unfollowed := true, recurses := true, apart := false, narrowed := true }
def ModesWrapUptoSaid : Prop := modesWrapUptoRow.holds Try.pinned (OpenSpec.upto modesWrapSpec)

end Rows
end Go.Proofs.Ytiocmebcbhbcmaa
