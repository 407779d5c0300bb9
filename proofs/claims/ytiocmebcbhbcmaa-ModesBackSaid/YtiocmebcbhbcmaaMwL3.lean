/-
  The statement ModesBack: 'baileylaw6.ModesBack' returns true for every mode, key, parameter and all bytes: decrypting undoes encrypting. No condition.
-/
import Derived.Test.YtiocmebcbhbcmaaZzMw3
import Derived.OpenShut
namespace Go.Proofs.Ytiocmebcbhbcmaa
open Go.RowKit

namespace LiftModesBack
open Go.ChangeShapes Go.WideShapes Go.ChangeAt
set_option linter.unusedVariables false
theorem own : ownKnob Try.prog.godebug = none := by kernel_rfl
set_option maxRecDepth 100000 in
theorem lifted (os : Os) (started : os.Started) (H : Type) (enc : TypeId × Value → H) :
    ReturnsInHanded {} Try.checked os 5 .any (Rows.modesBackSpec.pre6 enc Try.prog Try.f5 Rows.modesBackRow.domain false) (Rows.modesBackSpec.post enc Try.prog Try.f5 false true false false) := by
  refine returnsInHanded_of_change (C := Try.checked) own started (by kernel_rfl) Try.func5
    (ChangeSpec.witness6 (enc := enc) (C := Try.checked) false ⟨#[], #[.int .i64 0, .slice none 0 0, .slice none 0 0, .slice none 0 0], []⟩ 8 (by kernel_rfl) (by kernel_rfl) (by kernel_rfl) (by kernel_rfl)) ?_
  intro W base args ds gs before hval0 hW hcnd _
  have hval : ∀ (j : Nat) t v, Try.f5.params[j]? = some t → args[j]? = some v → Value.okWide Try.prog W .any base t v := hval0
  have hW' := hW
  obtain ⟨p, q, hA0, hV, rfl, hfz, hnd⟩ := hW
  have hA : DataW.TrodAll enc Try.prog W 0 (fun _ => true) true Try.f5.params.toList args.toList ds p := hA0
  rw [Try.params5] at hA hval
  obtain ⟨rfl, rfl⟩ := trodVars_none hV
  obtain ⟨args⟩ := args
  obtain ⟨v0, vs0, d0, ds0, p0, q0, hv0, rfl, _, h0, hA0⟩ := trodAll_cons hA
  obtain ⟨v1, vs1, d1, ds1, p1, q1, hv1, rfl, _, h1, hA1⟩ := trodAll_cons hA0
  obtain ⟨v2, vs2, d2, ds2, p2, q2, hv2, rfl, _, h2, hA2⟩ := trodAll_cons hA1
  obtain ⟨v3, vs3, d3, ds3, p3, q3, hv3, rfl, _, h3, hA3⟩ := trodAll_cons hA2
  obtain ⟨rfl, rfl, _⟩ := trodAll_nil hA3
  subst hv3
  subst hv2
  subst hv1
  simp only at hv0
  subst hv0
  obtain ⟨n0, rfl, rfl, _, hw0⟩ := open_int Try.underlying3 (hval 0 _ v0 rfl rfl) h0
  obtain ⟨A1, m1, c1, l1, rfl, hr1⟩ := open_rd (hval 1 _ v1 rfl rfl) h1
  obtain ⟨A2, m2, c2, l2, rfl, hr2⟩ := open_rd (hval 2 _ v2 rfl rfl) h2
  obtain ⟨A3, m3, c3, l3, rfl, hr3⟩ := open_rd (hval 3 _ v3 rfl rfl) h3
  refine (modesBack_any n0 A1 A2 A3 m1 c1 m2 c2 m3 c3 l1 l2 l3 W hr1 hr2 hr3).mono fun e W' ⟨he, hb⟩ => ?_
  subst he
  refine ⟨_, rfl, law_post rfl rfl ?_ hW' rfl hb⟩
  rw [Try.params5]
  decide +kernel
theorem over : Rows.modesBackRow.holds Try.pinned (OpenSpec.ofChange Rows.modesBackSpec) :=
  OpenClaim.holds_of_wide 5 Try.f5 rfl rfl rfl rfl rfl rfl rfl ⟨rfl, rfl, rfl, rfl, rfl⟩ rfl rfl rfl rfl rfl (by kernel_rfl) Try.func5 (by kernel_rfl)
    (of_decide_eq_true (by kernel_rfl)) (by unfold Func.isWrapper; first | (rw [if_pos (by decide +kernel)]; kernel_rfl) | (rw [if_neg (by decide +kernel)]; exact ⟨rfl, rfl⟩))
    (fun os started H enc _ => lifted os started H enc)
end LiftModesBack
/-- The statement. -/
theorem modesBack_holds : Rows.ModesBackSaid := LiftModesBack.over
#print axioms modesBack_holds
end Go.Proofs.Ytiocmebcbhbcmaa
