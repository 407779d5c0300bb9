/-
  The statement DerRead: 'baileylaw11.DerRead' returns true for all bytes: any bytes are read or refused, and what is read is written as it was. No condition.
-/
import Derived.Test.YtgkhhinjdojbhaaDer24
import Derived.Test.YtgkhhinjdojbhaaLift
import Derived.OpenShut
namespace Go.Proofs.Ytgkhhinjdojbhaa
open Go.RowKit

namespace LiftDerRead
open Go.ChangeShapes Go.WideShapes Go.ChangeAt
set_option linter.unusedVariables false
theorem own : ownKnob Try.prog.godebug = none := by kernel_rfl
set_option maxRecDepth 100000 in
theorem lifted (os : Os) (started : os.Started) (H : Type) (enc : TypeId × Value → H) :
    ReturnsInHanded {} Try.checked os 4 .any (Rows.derReadSpec.pre6 enc Try.prog Try.f4 Rows.derReadRow.domain false) (Rows.derReadSpec.post enc Try.prog Try.f4 false true false false) := by
  refine returnsInHanded_of_change (C := Try.checked) own started (by kernel_rfl) Try.func4
    (ChangeSpec.witness6 (enc := enc) (C := Try.checked) false ⟨#[], #[.slice none 0 0], []⟩ 8 (by kernel_rfl) (by kernel_rfl) (by kernel_rfl) (by kernel_rfl)) ?_
  intro W base args ds gs before hval0 hW hcnd _
  have hval : ∀ (j : Nat) t v, Try.f4.params[j]? = some t → args[j]? = some v → Value.okWide Try.prog W .any base t v := hval0
  have hW' := hW
  obtain ⟨p, q, hA0, hV, rfl, hfz, hnd⟩ := hW
  have hA : DataW.TrodAll enc Try.prog W 0 (fun _ => true) true Try.f4.params.toList args.toList ds p := hA0
  rw [Try.params4] at hA hval
  obtain ⟨rfl, rfl⟩ := trodVars_none hV
  obtain ⟨args⟩ := args
  obtain ⟨v0, vs0, d0, ds0, p0, q0, hv0, rfl, _, h0, hA0⟩ := trodAll_cons hA
  obtain ⟨rfl, rfl, _⟩ := trodAll_nil hA0
  simp only at hv0
  subst hv0
  obtain ⟨A0, m0, c0, l0, rfl, hr0⟩ := open_rd (hval 0 _ v0 rfl rfl) h0
  refine (derRead_any A0 m0 c0 l0 W hr0).mono fun e W' ⟨he, hb⟩ => ?_
  subst he
  refine ⟨_, rfl, law_post rfl rfl ?_ hW' rfl hb⟩
  rw [Try.params4]
  decide +kernel
theorem over : Rows.derReadRow.holds Try.pinned (OpenSpec.ofChange Rows.derReadSpec) :=
  OpenClaim.holds_of_wide 4 Try.f4 rfl rfl rfl rfl rfl rfl rfl ⟨rfl, rfl, rfl, rfl, rfl⟩ rfl rfl rfl rfl rfl (by kernel_rfl) Try.func4 (by kernel_rfl)
    (of_decide_eq_true (by kernel_rfl)) (by unfold Func.isWrapper; first | (rw [if_pos (by decide +kernel)]; kernel_rfl) | (rw [if_neg (by decide +kernel)]; exact ⟨rfl, rfl⟩))
    (fun os started H enc _ => lifted os started H enc)
end LiftDerRead
/-- The statement. -/
theorem derRead_holds : Rows.DerReadSaid := LiftDerRead.over
#print axioms derRead_holds
end Go.Proofs.Ytgkhhinjdojbhaa
