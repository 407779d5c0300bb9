/-
  The statement ModesPiecesUpto: 'baileylaw6.ModesPieces' returns true wherever what it reads is of bulk at most 1048576: the pieces of an iterator that is handed in give, together, what comes out at once. No other condition.
-/
import Derived.Test.YtiocmebcbhbcmaaMp5
import Derived.OpenShut
import Derived.JoinedCond
namespace Go.Proofs.Ytiocmebcbhbcmaa
open Go.RowKit

namespace LiftModesPieces
open Go.ChangeShapes Go.WideShapes Go.ChangeAt
set_option linter.unusedVariables false
theorem own : ownKnob Try.prog.godebug = none := by kernel_rfl
set_option maxRecDepth 100000 in
theorem lifted (os : Os) (started : os.Started) (H : Type) (enc : TypeId × Value → H) (F : Stop.Interp) :
    ReturnsInHanded {} Try.checked os 8 .any ((Rows.OpenSpec.upto Rows.modesPiecesSpec).pre6 enc Try.prog Try.f8 Rows.modesPiecesUptoRow.domain false) (((Rows.OpenSpec.upto Rows.modesPiecesSpec).at F).post enc Try.prog Try.f8 false true false false) := by
  refine returnsInHanded_of_cond (C := Try.checked) (s := Rows.OpenSpec.upto Rows.modesPiecesSpec) (k := Rows.uptoSmall) rfl own started (by kernel_rfl) Try.func8
    (OpenSpec.witness (enc := enc) (C := Try.checked) (s := Rows.OpenSpec.upto Rows.modesPiecesSpec) (k := Rows.uptoSmall) rfl false ⟨#[], #[.int .i64 0, .bool false, .slice none 0 0, .slice none 0 0, .slice none 0 0], []⟩ 8 (by kernel_rfl) (by kernel_rfl) (by kernel_rfl)
      (x := ([.lit (.int .i64 0), .lit (.bool false), .nil, .nil, .nil], [], [])) (by kernel_rfl) rfl (by kernel_rfl)) ?_
  intro W base args ds gs before hval0 hW _ hk _
  have hval : ∀ (j : Nat) t v, Try.f8.params[j]? = some t → args[j]? = some v → Value.okWide Try.prog W .any base t v := hval0
  have hW' := hW
  obtain ⟨p, q, hA0, hV, rfl, hfz, hnd⟩ := hW
  have hA : DataW.TrodAll enc Try.prog W 0 (fun _ => true) true Try.f8.params.toList args.toList ds p := hA0
  rw [Try.params8] at hA hval
  obtain ⟨rfl, rfl⟩ := trodVars_none hV
  obtain ⟨args⟩ := args
  obtain ⟨v0, vs0, d0, ds0, p0, q0, hv0, rfl, _, h0, hA0⟩ := trodAll_cons hA
  obtain ⟨v1, vs1, d1, ds1, p1, q1, hv1, rfl, _, h1, hA1⟩ := trodAll_cons hA0
  obtain ⟨v2, vs2, d2, ds2, p2, q2, hv2, rfl, _, h2, hA2⟩ := trodAll_cons hA1
  obtain ⟨v3, vs3, d3, ds3, p3, q3, hv3, rfl, _, h3, hA3⟩ := trodAll_cons hA2
  obtain ⟨v4, vs4, d4, ds4, p4, q4, hv4, rfl, _, h4, hA4⟩ := trodAll_cons hA3
  obtain ⟨rfl, rfl, _⟩ := trodAll_nil hA4
  subst hv4
  subst hv3
  subst hv2
  subst hv1
  simp only at hv0
  subst hv0
  obtain ⟨n0, rfl, rfl, _, hw0⟩ := open_int Try.underlying3 (hval 0 _ v0 rfl rfl) h0
  obtain ⟨n1, rfl, rfl, _⟩ := open_bool Try.underlying4 (hval 1 _ v1 rfl rfl) h1
  obtain ⟨A2, m2, c2, l2, rfl, hr2⟩ := open_rd (hval 2 _ v2 rfl rfl) h2
  obtain ⟨A3, m3, c3, l3, rfl, hr3, hu3⟩ := open_rdU (hval 3 _ v3 rfl rfl) h3
  obtain ⟨A4, m4, c4, l4, rfl, hmc4, hc4, hr4, hu4⟩ := open_rowsU (hval 4 _ v4 rfl rfl) h4
  have hb := of_decide_eq_true hk
  simp only [List.append_nil, Rows.uptoBulkAll] at hb
  refine (modesPieces_any n0 n1 A2 A3 A4 m2 c2 m3 c3 m4 c4 l2 l3 l4 W hr2 hr3 (by omega) hr4 hmc4 hc4 (by omega)).mono fun e W' ⟨he, hb⟩ => ?_
  subst he
  refine ⟨_, rfl, law_post rfl rfl ?_ hW' rfl hb⟩
  rw [Try.params8]
  decide +kernel
theorem over : Rows.modesPiecesUptoRow.holds Try.pinned (Rows.OpenSpec.upto Rows.modesPiecesSpec) :=
  OpenClaim.holds_of_cond 8 Try.f8 rfl rfl rfl rfl rfl rfl rfl ⟨rfl, rfl, rfl, rfl, rfl⟩ rfl rfl rfl rfl rfl (by kernel_rfl) Try.func8 (by kernel_rfl)
    (of_decide_eq_true (by kernel_rfl)) (by unfold Func.isWrapper; first | (rw [if_pos (by decide +kernel)]; kernel_rfl) | (rw [if_neg (by decide +kernel)]; exact ⟨rfl, rfl⟩))
    (fun os started H enc _ F => lifted os started H enc F)
end LiftModesPieces
/-- The statement. -/
theorem modesPiecesUpto_holds : Rows.ModesPiecesUptoSaid := LiftModesPieces.over
#print axioms modesPiecesUpto_holds
end Go.Proofs.Ytiocmebcbhbcmaa
