/-
  No cell of these rows narrows 'for every input' (looked for: loops, veiled, ifaces, maps, wideKeys, modest, calm, conditions, laid).
  DERIVED. THE GIVEN ROWS OF THIS SEAT. 4 by the template 'for every input the law returns true; each argument reads behind the call as it read before'; 0 by the template 'total and deterministic' (their statements: YtmanpfenmamflaaTotals.lean).
  GIVEN WITH THE SEED: the statements are not yours to turn. If you find one false, say at which input.
  Laid BY PROGRAM, IN A SANDBOX (cutbox-rows.mjs): the forced cells as the released guide's own fill.sh prints them over the translation 3203cd18d9553233… (all of the seat's roots in one cut). By AI agents, Wed Nov 11 2026. No macro, syntax, notation, axiom, sorry.
-/
import Derived.Test.YtmanpfenmamflaaChecked
import GoSem.Claim
import GoSem.ClaimJoined
import GoSem.ClaimMapViews
import Derived.JoinedTies
import Derived.KernelRfl
namespace Go.Proofs.Ytmanpfenmamflaa
/- THE CELL 'sum', in the pinned program and in every row, IS THE sha256 OF THE DUMP (.gsa) THAT YtmanpfenmamflaaProg.lean LOADS. Nothing in Lean hashes anything: it is a label: what it is worth is what the hold of that sum in a sandbox is worth. -/
noncomputable def Try.pinned : Pinned := { name := "ytmanpfenmamflaa", sum := "3203cd18d9553233b762ff138a537e2436735ce0997caebbe13a19db42a246e8", checked := Try.checked }
namespace Rows
def none {H : Type} : Left H := { results := [], args := [] }

/-- 'baileylaw25.RpcCall': WHATEVER THE INPUT: true; the input reads as it did. -/
def rpcCallSpec : ChangeSpec := { name := "rpcCall", fn := fun _ => fun
  | [d] => { results := [.lit (.bool true)], args := [d] }
  | _ => none }
def rpcCallRow : OpenClaim := { program := "ytmanpfenmamflaa", sum := "3203cd18d9553233b762ff138a537e2436735ce0997caebbe13a19db42a246e8", func := "bailey/baileylaw25.RpcCall", spec := "rpcCall", unfollowed := true, recurses := true, apart := false }
def RpcCallSaid : Prop := rpcCallRow.holds Try.pinned (OpenSpec.ofChange rpcCallSpec)

/-- ITS FALSE NEIGHBOUR: 'it returns false'. Refute it at one input. -/
def rpcCallWrong : ChangeSpec := { name := "rpcCall", fn := fun _ => fun
  | [d] => { results := [.lit (.bool false)], args := [d] }
  | _ => none }
def RpcCallWrongFalsely : Prop := rpcCallRow.holds Try.pinned (OpenSpec.ofChange rpcCallWrong)

/-- 'baileylaw25.RpcNext': WHATEVER THE INPUT: true; the input reads as it did. -/
def rpcNextSpec : ChangeSpec := { name := "rpcNext", fn := fun _ => fun
  | [d1, d2, d3] => { results := [.lit (.bool true)], args := [d1, d2, d3] }
  | _ => none }
def rpcNextRow : OpenClaim := { program := "ytmanpfenmamflaa", sum := "3203cd18d9553233b762ff138a537e2436735ce0997caebbe13a19db42a246e8", func := "bailey/baileylaw25.RpcNext", spec := "rpcNext", unfollowed := true, recurses := true, apart := false }
def RpcNextSaid : Prop := rpcNextRow.holds Try.pinned (OpenSpec.ofChange rpcNextSpec)

/-- ITS FALSE NEIGHBOUR: 'it returns false'. Refute it at one input. -/
def rpcNextWrong : ChangeSpec := { name := "rpcNext", fn := fun _ => fun
  | [d1, d2, d3] => { results := [.lit (.bool false)], args := [d1, d2, d3] }
  | _ => none }
def RpcNextWrongFalsely : Prop := rpcNextRow.holds Try.pinned (OpenSpec.ofChange rpcNextWrong)

/-- 'baileylaw25.RpcBig': WHATEVER THE INPUT: true; the input reads as it did. -/
def rpcBigSpec : ChangeSpec := { name := "rpcBig", fn := fun _ => fun
  | [] => { results := [.lit (.bool true)], args := [] }
  | _ => none }
def rpcBigRow : OpenClaim := { program := "ytmanpfenmamflaa", sum := "3203cd18d9553233b762ff138a537e2436735ce0997caebbe13a19db42a246e8", func := "bailey/baileylaw25.RpcBig", spec := "rpcBig", unfollowed := true, recurses := true, apart := false }
def RpcBigSaid : Prop := rpcBigRow.holds Try.pinned (OpenSpec.ofChange rpcBigSpec)

/-- ITS FALSE NEIGHBOUR: 'it returns false'. Refute it at one input. -/
def rpcBigWrong : ChangeSpec := { name := "rpcBig", fn := fun _ => fun
  | [] => { results := [.lit (.bool false)], args := [] }
  | _ => none }
def RpcBigWrongFalsely : Prop := rpcBigRow.holds Try.pinned (OpenSpec.ofChange rpcBigWrong)

/-- 'baileylaw25.RpcReply': WHATEVER THE INPUT: true; the input reads as it did. -/
def rpcReplySpec : ChangeSpec := { name := "rpcReply", fn := fun _ => fun
  | [d] => { results := [.lit (.bool true)], args := [d] }
  | _ => none }
def rpcReplyRow : OpenClaim := { program := "ytmanpfenmamflaa", sum := "3203cd18d9553233b762ff138a537e2436735ce0997caebbe13a19db42a246e8", func := "bailey/baileylaw25.RpcReply", spec := "rpcReply", unfollowed := true, recurses := true, apart := false }
def RpcReplySaid : Prop := rpcReplyRow.holds Try.pinned (OpenSpec.ofChange rpcReplySpec)

/-- ITS FALSE NEIGHBOUR: 'it returns false'. Refute it at one input. -/
def rpcReplyWrong : ChangeSpec := { name := "rpcReply", fn := fun _ => fun
  | [d] => { results := [.lit (.bool false)], args := [d] }
  | _ => none }
def RpcReplyWrongFalsely : Prop := rpcReplyRow.holds Try.pinned (OpenSpec.ofChange rpcReplyWrong)

/- THE SECOND FORM. 'bulk': how many values and letters a reading holds, each counted each time it is reached (what is shared counts as often as it is met; a slice's spare places count too). A statement '..UptoSaid' is the law's where the arguments, and the package variables that the reading takes, are together of bulk at most 1048576: NARROWER than '..Said'. Prove '..Said' where nothing that the law and all that it calls make is longer than what came in: it says more and counts as full. Else prove '..UptoSaid'. A law counts once. -/
mutual
def uptoBulk {H : Type} : DataW H → Nat
  | .lit (.string bytes) => bytes.length + 1
  | .lit _ => 1
  | .nil => 1
  | .ptr d => uptoBulk d + 1
  | .slice elems spare => uptoBulkAll elems + uptoBulkAll spare + 1
  | .agg parts => uptoBulkAll parts + 1
  | .iface _ d => uptoBulk d + 1
  | .map entries => uptoBulkEntries entries + 1
  | .held _ => 1
def uptoBulkAll {H : Type} : List (DataW H) → Nat
  | [] => 0
  | d :: r => uptoBulk d + uptoBulkAll r
def uptoBulkEntries {H : Type} : List (Lit × DataW H) → Nat
  | [] => 0
  | x :: r => uptoBulkEntry x + uptoBulkEntries r
def uptoBulkEntry {H : Type} : Lit × DataW H → Nat
  | (.string bytes, d) => bytes.length + uptoBulk d + 1
  | (_, d) => uptoBulk d + 1
 end
def uptoSmall : (H : Type) → List (DataW H) → Bool := fun _ ds => decide (uptoBulkAll ds ≤ 1048576)
def OpenSpec.upto (s : _root_.Go.ChangeSpec) : _root_.Go.OpenSpec := { _root_.Go.OpenSpec.ofChange s with cond := some uptoSmall }

/-- 'baileylaw25.RpcCall', WHERE WHAT IT READS IS OF BULK AT MOST 1048576: true; the input reads as it did. -/
def rpcCallUptoRow : OpenClaim := { program := "ytmanpfenmamflaa", sum := "3203cd18d9553233b762ff138a537e2436735ce0997caebbe13a19db42a246e8", func := "bailey/baileylaw25.RpcCall", spec := "rpcCall", unfollowed := true, recurses := true, apart := false, narrowed := true }
def RpcCallUptoSaid : Prop := rpcCallUptoRow.holds Try.pinned (OpenSpec.upto rpcCallSpec)

/-- 'baileylaw25.RpcNext', WHERE WHAT IT READS IS OF BULK AT MOST 1048576: true; the input reads as it did. -/
def rpcNextUptoRow : OpenClaim := { program := "ytmanpfenmamflaa", sum := "3203cd18d9553233b762ff138a537e2436735ce0997caebbe13a19db42a246e8", func := "bailey/baileylaw25.RpcNext", spec := "rpcNext", unfollowed := true, recurses := true, apart := false, narrowed := true }
def RpcNextUptoSaid : Prop := rpcNextUptoRow.holds Try.pinned (OpenSpec.upto rpcNextSpec)

/-- 'baileylaw25.RpcBig', WHERE WHAT IT READS IS OF BULK AT MOST 1048576: true; the input reads as it did. -/
def rpcBigUptoRow : OpenClaim := { program := "ytmanpfenmamflaa", sum := "3203cd18d9553233b762ff138a537e2436735ce0997caebbe13a19db42a246e8", func := "bailey/baileylaw25.RpcBig", spec := "rpcBig", unfollowed := true, recurses := true, apart := false, narrowed := true }
def RpcBigUptoSaid : Prop := rpcBigUptoRow.holds Try.pinned (OpenSpec.upto rpcBigSpec)

/-- 'baileylaw25.RpcReply', WHERE WHAT IT READS IS OF BULK AT MOST 1048576: true; the input reads as it did. -/
def rpcReplyUptoRow : OpenClaim := { program := "ytmanpfenmamflaa", sum := "3203cd18d9553233b762ff138a537e2436735ce0997caebbe13a19db42a246e8", func := "bailey/baileylaw25.RpcReply", spec := "rpcReply", unfollowed := true, recurses := true, apart := false, narrowed := true }
def RpcReplyUptoSaid : Prop := rpcReplyUptoRow.holds Try.pinned (OpenSpec.upto rpcReplySpec)

end Rows
end Go.Proofs.Ytmanpfenmamflaa
