/-
  The statement ModesForged: 'baileylaw6.ModesForged' returns true for every key, iv, additional data, text, place and byte: a GCM text, tag or additional data of which one byte is another one is refused. No condition.
-/
import Derived.Test.YtiocmebcbhbcmaaMw4
import Derived.OpenShut
namespace Go.Proofs.Ytiocmebcbhbcmaa
open Go.RowKit

namespace LiftModesForged
open Go.ChangeShapes Go.WideShapes Go.ChangeAt
set_option linter.unusedVariables false
theorem own : ownKnob Try.prog.godebug = none := by kernel_rfl
set_option maxRecDepth 100000 in
theorem lifted (os : Os) (started : os.Started) (H : Type) (enc : TypeId × Value → H) :
    ReturnsInHanded {} Try.checked os 6 .any (Rows.modesForgedSpec.pre6 enc Try.prog Try.f6 Rows.modesForgedRow.domain false) (Rows.modesForgedSpec.post enc Try.prog Try.f6 false true false false) := by
  refine returnsInHanded_of_change (C := Try.checked) own started (by kernel_rfl) Try.func6
    (ChangeSpec.witness6 (enc := enc) (C := Try.checked) false ⟨#[], #[.slice none 0 0, .slice none 0 0, .slice none 0 0, .slice none 0 0, .int .i64 0, .int .u8 0], []⟩ 8 (by kernel_rfl) (by kernel_rfl) (by kernel_rfl) (by kernel_rfl)) ?_
  intro W base args ds gs before hval0 hW hcnd _
  have hval : ∀ (j : Nat) t v, Try.f6.params[j]? = some t → args[j]? = some v → Value.okWide Try.prog W .any base t v := hval0
  have hW' := hW
  obtain ⟨p, q, hA0, hV, rfl, hfz, hnd⟩ := hW
  have hA : DataW.TrodAll enc Try.prog W 0 (fun _ => true) true Try.f6.params.toList args.toList ds p := hA0
  rw [Try.params6] at hA hval
  obtain ⟨rfl, rfl⟩ := trodVars_none hV
  obtain ⟨args⟩ := args
  obtain ⟨v0, vs0, d0, ds0, p0, q0, hv0, rfl, _, h0, hA0⟩ := trodAll_cons hA
  obtain ⟨v1, vs1, d1, ds1, p1, q1, hv1, rfl, _, h1, hA1⟩ := trodAll_cons hA0
  obtain ⟨v2, vs2, d2, ds2, p2, q2, hv2, rfl, _, h2, hA2⟩ := trodAll_cons hA1
  obtain ⟨v3, vs3, d3, ds3, p3, q3, hv3, rfl, _, h3, hA3⟩ := trodAll_cons hA2
  obtain ⟨v4, vs4, d4, ds4, p4, q4, hv4, rfl, _, h4, hA4⟩ := trodAll_cons hA3
  obtain ⟨v5, vs5, d5, ds5, p5, q5, hv5, rfl, _, h5, hA5⟩ := trodAll_cons hA4
  obtain ⟨rfl, rfl, _⟩ := trodAll_nil hA5
  subst hv5
  subst hv4
  subst hv3
  subst hv2
  subst hv1
  simp only at hv0
  subst hv0
  obtain ⟨A0, m0, c0, l0, rfl, hr0⟩ := open_rd (hval 0 _ v0 rfl rfl) h0
  obtain ⟨A1, m1, c1, l1, rfl, hr1⟩ := open_rd (hval 1 _ v1 rfl rfl) h1
  obtain ⟨A2, m2, c2, l2, rfl, hr2⟩ := open_rd (hval 2 _ v2 rfl rfl) h2
  obtain ⟨A3, m3, c3, l3, rfl, hr3⟩ := open_rd (hval 3 _ v3 rfl rfl) h3
  obtain ⟨n4, rfl, rfl, _, hw4⟩ := open_int Try.underlying3 (hval 4 _ v4 rfl rfl) h4
  obtain ⟨n5, rfl, rfl, _, hw5⟩ := open_int Try.underlying5 (hval 5 _ v5 rfl rfl) h5
  obtain ⟨x5, rfl⟩ := u8_wf hw5
  refine (modesForged_any A0 A1 A2 A3 m0 c0 m1 c1 m2 c2 m3 c3 l0 l1 l2 l3 n4 x5 W hr0 hr1 hr2 hr3 (i64_wf hw4)).mono fun e W' ⟨he, hb⟩ => ?_
  subst he
  refine ⟨_, rfl, law_post rfl rfl ?_ hW' rfl hb⟩
  rw [Try.params6]
  decide +kernel
theorem over : Rows.modesForgedRow.holds Try.pinned (OpenSpec.ofChange Rows.modesForgedSpec) :=
  OpenClaim.holds_of_wide 6 Try.f6 rfl rfl rfl rfl rfl rfl rfl ⟨rfl, rfl, rfl, rfl, rfl⟩ rfl rfl rfl rfl rfl (by kernel_rfl) Try.func6 (by kernel_rfl)
    (of_decide_eq_true (by kernel_rfl)) (by unfold Func.isWrapper; first | (rw [if_pos (by decide +kernel)]; kernel_rfl) | (rw [if_neg (by decide +kernel)]; exact ⟨rfl, rfl⟩))
    (fun os started H enc _ => lifted os started H enc)
end LiftModesForged
/-- The statement. -/
theorem modesForged_holds : Rows.ModesForgedSaid := LiftModesForged.over
#print axioms modesForged_holds
end Go.Proofs.Ytiocmebcbhbcmaa
