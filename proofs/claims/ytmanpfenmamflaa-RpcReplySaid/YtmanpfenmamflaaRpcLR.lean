/-
  The statement RpcReply: 'baileylaw25.RpcReply' returns true for every reply: replies go to frames and back, byte for byte as the document says, or are refused. No condition.
-/
import Derived.Test.YtmanpfenmamflaaRpcS7
import Derived.Test.YtmanpfenmamflaaOpenR
import Derived.Test.YtmanpfenmamflaaLift
import Derived.OpenShut
namespace Go.Proofs.Ytmanpfenmamflaa
open Go.RowKit

namespace LiftRpcReply
open Go.ChangeShapes Go.WideShapes Go.ChangeAt
set_option linter.unusedVariables false
theorem own : ownKnob Try.prog.godebug = none := by kernel_rfl
set_option maxRecDepth 100000 in
theorem lifted (os : Os) (started : os.Started) (H : Type) (enc : TypeId × Value → H) :
    ReturnsInHanded {} Try.checked os 6 .any (Rows.rpcReplySpec.pre6 enc Try.prog Try.f6 Rows.rpcReplyRow.domain false) (Rows.rpcReplySpec.post enc Try.prog Try.f6 false true false false) := by
  refine returnsInHanded_of_change (C := Try.checked) own started (by kernel_rfl) Try.func6
    (ChangeSpec.witness6 (enc := enc) (C := Try.checked) false ⟨#[], #[.agg #[.int .i64 0, .int .i64 0, .int .i64 0, .slice none 0 0, .slice none 0 0, .slice none 0 0]], []⟩ 8 (by kernel_rfl) (by kernel_rfl) (by kernel_rfl) (by kernel_rfl)) ?_
  intro W base args ds gs before hval0 hW hcnd _
  have hval : ∀ (j : Nat) t v, Try.f6.params[j]? = some t → args[j]? = some v → Value.okWide Try.prog W .any base t v := hval0
  have hW' := hW
  obtain ⟨p, q, hA0, hV, rfl, hfz, hnd⟩ := hW
  have hA : DataW.TrodAll enc Try.prog W 0 (fun _ => true) true Try.f6.params.toList args.toList ds p := hA0
  rw [Try.params6] at hA hval
  obtain ⟨rfl, rfl⟩ := trodVars_none hV
  obtain ⟨args⟩ := args
  obtain ⟨v0, vs0, d0, ds0, p0, q0, hv0, rfl, _, h0, hA0⟩ := trodAll_cons hA
  obtain ⟨rfl, rfl, _⟩ := trodAll_nil hA0
  simp only at hv0
  subst hv0
  obtain ⟨c0, sd0, se0, st0, rfl, hr0⟩ := open_reply (hval 0 _ v0 rfl rfl) h0
  refine (rpcReply_any c0 sd0 se0 st0 W hr0).mono fun e W' ⟨he, hb⟩ => ?_
  subst he
  refine ⟨_, rfl, law_post rfl rfl ?_ hW' rfl hb⟩
  rw [Try.params6]
  decide +kernel
theorem over : Rows.rpcReplyRow.holds Try.pinned (OpenSpec.ofChange Rows.rpcReplySpec) :=
  OpenClaim.holds_of_wide 6 Try.f6 rfl rfl rfl rfl rfl rfl rfl ⟨rfl, rfl, rfl, rfl, rfl⟩ rfl rfl rfl rfl rfl (by kernel_rfl) Try.func6 (by kernel_rfl)
    (of_decide_eq_true (by kernel_rfl)) (by unfold Func.isWrapper; first | (rw [if_pos (by decide +kernel)]; kernel_rfl) | (rw [if_neg (by decide +kernel)]; exact ⟨rfl, rfl⟩))
    (fun os started H enc _ => lifted os started H enc)
end LiftRpcReply
/-- The statement. -/
theorem rpcReply_holds : Rows.RpcReplySaid := LiftRpcReply.over
#print axioms rpcReply_holds
end Go.Proofs.Ytmanpfenmamflaa
