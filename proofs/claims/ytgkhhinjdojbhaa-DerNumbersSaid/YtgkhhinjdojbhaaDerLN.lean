/-
  The statement DerNumbers: 'baileylaw11.DerNumbers' returns true for all numbers, arcs and nodes: numbers and object identifiers go to nodes and back. No condition.
-/
import Derived.Test.YtgkhhinjdojbhaaRnB
import Derived.Test.YtgkhhinjdojbhaaOpenNM
import Derived.Test.YtgkhhinjdojbhaaOpenNM
import Derived.OpenShut
namespace Go.Proofs.Ytgkhhinjdojbhaa
open Go.RowKit

namespace LiftDerNumbers
open Go.ChangeShapes Go.WideShapes Go.ChangeAt
set_option linter.unusedVariables false
theorem own : ownKnob Try.prog.godebug = none := by kernel_rfl
set_option maxRecDepth 100000 in
theorem lifted (os : Os) (started : os.Started) (H : Type) (enc : TypeId × Value → H) :
    ReturnsInHanded {} Try.checked os 5 .any (Rows.derNumbersSpec.pre6 enc Try.prog Try.f5 Rows.derNumbersRow.domain false) (Rows.derNumbersSpec.post enc Try.prog Try.f5 false true false false) := by
  refine returnsInHanded_of_change (C := Try.checked) own started (by kernel_rfl) Try.func5
    (ChangeSpec.witness6 (enc := enc) (C := Try.checked) false ⟨#[], #[.slice none 0 0, .slice none 0 0, .agg #[.int .i64 0, .slice none 0 0, .slice none 0 0]], []⟩ 8 (by kernel_rfl) (by kernel_rfl) (by kernel_rfl) (by kernel_rfl)) ?_
  intro W base args ds gs before hval0 hW hcnd _
  have hval : ∀ (j : Nat) t v, Try.f5.params[j]? = some t → args[j]? = some v → Value.okWide Try.prog W .any base t v := hval0
  have hW' := hW
  obtain ⟨p, q, hA0, hV, rfl, hfz, hnd⟩ := hW
  have hA : DataW.TrodAll enc Try.prog W 0 (fun _ => true) true Try.f5.params.toList args.toList ds p := hA0
  rw [Try.params5] at hA hval
  obtain ⟨rfl, rfl⟩ := trodVars_none hV
  obtain ⟨args⟩ := args
  obtain ⟨v0, vs0, d0, ds0, p0, q0, hv0, rfl, _, h0, hA0⟩ := trodAll_cons hA
  obtain ⟨v1, vs1, d1, ds1, p1, q1, hv1, rfl, _, h1, hA1⟩ := trodAll_cons hA0
  obtain ⟨v2, vs2, d2, ds2, p2, q2, hv2, rfl, _, h2, hA2⟩ := trodAll_cons hA1
  obtain ⟨rfl, rfl, _⟩ := trodAll_nil hA2
  subst hv2
  subst hv1
  simp only at hv0
  subst hv0
  obtain ⟨A0, m0, c0, l0, rfl, hc0, hn0, hr0⟩ := open_nat (hval 0 _ v0 rfl rfl) h0
  obtain ⟨A1, m1, c1, l1, rfl, hc1, hn1, hr1⟩ := open_ints1 (hval 1 _ v1 rfl rfl) h1
  obtain ⟨f2, nd2, rfl, hr2⟩ := open_node (hval 2 _ v2 rfl rfl) h2
  refine (derNumbers_any A0 m0 c0 l0 A1 m1 c1 l1 f2 nd2 W hr2 hr0 hc0 hn0 hr1 hc1).mono fun e W' ⟨he, hb⟩ => ?_
  subst he
  refine ⟨_, rfl, law_post rfl rfl ?_ hW' rfl hb⟩
  rw [Try.params5]
  decide +kernel
theorem over : Rows.derNumbersRow.holds Try.pinned (OpenSpec.ofChange Rows.derNumbersSpec) :=
  OpenClaim.holds_of_wide 5 Try.f5 rfl rfl rfl rfl rfl rfl rfl ⟨rfl, rfl, rfl, rfl, rfl⟩ rfl rfl rfl rfl rfl (by kernel_rfl) Try.func5 (by kernel_rfl)
    (of_decide_eq_true (by kernel_rfl)) (by unfold Func.isWrapper; first | (rw [if_pos (by decide +kernel)]; kernel_rfl) | (rw [if_neg (by decide +kernel)]; exact ⟨rfl, rfl⟩))
    (fun os started H enc _ => lifted os started H enc)
end LiftDerNumbers
/-- The statement. -/
theorem derNumbers_holds : Rows.DerNumbersSaid := LiftDerNumbers.over
#print axioms derNumbers_holds
end Go.Proofs.Ytgkhhinjdojbhaa
