/-
  The statement RpcNext: 'baileylaw25.RpcNext' returns true for all calls, bytes and numbers: frames are taken off any bytes, up to one that is too long, as far as one likes. No condition.
-/
import Derived.Test.YtmanpfenmamflaaRpcN2
import Derived.OpenShut
namespace Go.Proofs.Ytmanpfenmamflaa
open Go.RowKit

namespace LiftRpcNext
open Go.ChangeShapes Go.WideShapes Go.ChangeAt
set_option linter.unusedVariables false
theorem own : ownKnob Try.prog.godebug = none := by kernel_rfl
set_option maxRecDepth 100000 in
theorem lifted (os : Os) (started : os.Started) (H : Type) (enc : TypeId × Value → H) :
    ReturnsInHanded {} Try.checked os 4 .any (Rows.rpcNextSpec.pre6 enc Try.prog Try.f4 Rows.rpcNextRow.domain false) (Rows.rpcNextSpec.post enc Try.prog Try.f4 false true false false) := by
  refine returnsInHanded_of_change (C := Try.checked) own started (by kernel_rfl) Try.func4
    (ChangeSpec.witness6 (enc := enc) (C := Try.checked) false ⟨#[], #[.slice none 0 0, .slice none 0 0, .int .i64 0], []⟩ 8 (by kernel_rfl) (by kernel_rfl) (by kernel_rfl) (by kernel_rfl)) ?_
  intro W base args ds gs before hval0 hW hcnd _
  have hval : ∀ (j : Nat) t v, Try.f4.params[j]? = some t → args[j]? = some v → Value.okWide Try.prog W .any base t v := hval0
  have hW' := hW
  obtain ⟨p, q, hA0, hV, rfl, hfz, hnd⟩ := hW
  have hA : DataW.TrodAll enc Try.prog W 0 (fun _ => true) true Try.f4.params.toList args.toList ds p := hA0
  rw [Try.params4] at hA hval
  obtain ⟨rfl, rfl⟩ := trodVars_none hV
  obtain ⟨args⟩ := args
  obtain ⟨v0, vs0, d0, ds0, p0, q0, hv0, rfl, _, h0, hA0⟩ := trodAll_cons hA
  obtain ⟨v1, vs1, d1, ds1, p1, q1, hv1, rfl, _, h1, hA1⟩ := trodAll_cons hA0
  obtain ⟨v2, vs2, d2, ds2, p2, q2, hv2, rfl, _, h2, hA2⟩ := trodAll_cons hA1
  obtain ⟨rfl, rfl, _⟩ := trodAll_nil hA2
  subst hv2
  subst hv1
  simp only at hv0
  subst hv0
  obtain ⟨A0, m0, c0, l0, rfl, hm0, hr0⟩ := open_calls (hval 0 _ v0 rfl rfl) h0
  obtain ⟨A1, m1, c1, l1, rfl, hr1⟩ := open_rd (hval 1 _ v1 rfl rfl) h1
  obtain ⟨n2, rfl, rfl, _, hw2⟩ := open_int Try.underlying3 (hval 2 _ v2 rfl rfl) h2
  refine (rpcNext_any A0 m0 c0 l0 A1 m1 c1 l1 n2 W hr0 hm0 hr1).mono fun e W' ⟨he, hb⟩ => ?_
  subst he
  refine ⟨_, rfl, law_post rfl rfl ?_ hW' rfl hb⟩
  rw [Try.params4]
  decide +kernel
theorem over : Rows.rpcNextRow.holds Try.pinned (OpenSpec.ofChange Rows.rpcNextSpec) :=
  OpenClaim.holds_of_wide 4 Try.f4 rfl rfl rfl rfl rfl rfl rfl ⟨rfl, rfl, rfl, rfl, rfl⟩ rfl rfl rfl rfl rfl (by kernel_rfl) Try.func4 (by kernel_rfl)
    (of_decide_eq_true (by kernel_rfl)) (by unfold Func.isWrapper; first | (rw [if_pos (by decide +kernel)]; kernel_rfl) | (rw [if_neg (by decide +kernel)]; exact ⟨rfl, rfl⟩))
    (fun os started H enc _ => lifted os started H enc)
end LiftRpcNext
/-- The statement. -/
theorem rpcNext_holds : Rows.RpcNextSaid := LiftRpcNext.over
#print axioms rpcNext_holds
end Go.Proofs.Ytmanpfenmamflaa
