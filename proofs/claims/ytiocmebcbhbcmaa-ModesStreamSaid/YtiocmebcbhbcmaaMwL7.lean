/-
  The statement ModesStream: 'baileylaw6.ModesStream' returns true for every mode, direction, key, parameter and all parts: each part comes out as soon as it can, and all that comes out is what comes out at once. No condition.
-/
import Derived.Test.YtiocmebcbhbcmaaMw7
import Derived.OpenShut
namespace Go.Proofs.Ytiocmebcbhbcmaa
open Go.RowKit

theorem modesStream_any (mode : Int) (enc : Bool) (A P B : Option Addr) (ma ca mp cp m cb : Nat) (k p : List UInt8) (ls : List (List UInt8)) (w : World) (hk : Rd w A ma ca k) (hp : Rd w P mp cp p) (hb : RowsAt w B m ls) (hm : m ≤ maxLen) :
    Calls Try.prog 4 #[.int .i64 mode, .bool enc, .slice A ma ca, .slice P mp cp, .slice B m cb] w (LawRes w) := by
  by_cases h : mayF mode (k.take 40) (p.take 300) = 0
  · obtain ⟨mo, rfl, h1, h5, hko, hpo⟩ := mayF_ok mode _ _ h
    exact modesStream_good mo enc A P B ma ca mp cp m cb k p ls w hk hp hb hm h h1 h5 hko hpo
  · exact modesStream_bad mode enc A P B ma ca mp cp m cb k p w hk hp h

namespace LiftModesStream
open Go.ChangeShapes Go.WideShapes Go.ChangeAt
set_option linter.unusedVariables false
theorem own : ownKnob Try.prog.godebug = none := by kernel_rfl
set_option maxRecDepth 100000 in
theorem lifted (os : Os) (started : os.Started) (H : Type) (enc : TypeId × Value → H) :
    ReturnsInHanded {} Try.checked os 4 .any (Rows.modesStreamSpec.pre6 enc Try.prog Try.f4 Rows.modesStreamRow.domain false) (Rows.modesStreamSpec.post enc Try.prog Try.f4 false true false false) := by
  refine returnsInHanded_of_change (C := Try.checked) own started (by kernel_rfl) Try.func4
    (ChangeSpec.witness6 (enc := enc) (C := Try.checked) false ⟨#[], #[.int .i64 0, .bool false, .slice none 0 0, .slice none 0 0, .slice none 0 0], []⟩ 8 (by kernel_rfl) (by kernel_rfl) (by kernel_rfl) (by kernel_rfl)) ?_
  intro W base args ds gs before hval0 hW hcnd _
  have hval : ∀ (j : Nat) t v, Try.f4.params[j]? = some t → args[j]? = some v → Value.okWide Try.prog W .any base t v := hval0
  have hW' := hW
  obtain ⟨p, q, hA0, hV, rfl, hfz, hnd⟩ := hW
  have hA : DataW.TrodAll enc Try.prog W 0 (fun _ => true) true Try.f4.params.toList args.toList ds p := hA0
  rw [Try.params4] at hA hval
  obtain ⟨rfl, rfl⟩ := trodVars_none hV
  obtain ⟨args⟩ := args
  obtain ⟨v0, vs0, d0, ds0, p0, q0, hv0, rfl, _, h0, hA0⟩ := trodAll_cons hA
  obtain ⟨v1, vs1, d1, ds1, p1, q1, hv1, rfl, _, h1, hA1⟩ := trodAll_cons hA0
  obtain ⟨v2, vs2, d2, ds2, p2, q2, hv2, rfl, _, h2, hA2⟩ := trodAll_cons hA1
  obtain ⟨v3, vs3, d3, ds3, p3, q3, hv3, rfl, _, h3, hA3⟩ := trodAll_cons hA2
  obtain ⟨v4, vs4, d4, ds4, p4, q4, hv4, rfl, _, h4, hA4⟩ := trodAll_cons hA3
  obtain ⟨rfl, rfl, _⟩ := trodAll_nil hA4
  subst hv4
  subst hv3
  subst hv2
  subst hv1
  simp only at hv0
  subst hv0
  obtain ⟨n0, rfl, rfl, _, hw0⟩ := open_int Try.underlying3 (hval 0 _ v0 rfl rfl) h0
  obtain ⟨n1, rfl, rfl, _⟩ := open_bool Try.underlying4 (hval 1 _ v1 rfl rfl) h1
  obtain ⟨A2, m2, c2, l2, rfl, hr2⟩ := open_rd (hval 2 _ v2 rfl rfl) h2
  obtain ⟨A3, m3, c3, l3, rfl, hr3⟩ := open_rd (hval 3 _ v3 rfl rfl) h3
  obtain ⟨A4, m4, c4, l4, rfl, hm4, hr4⟩ := open_rows (hval 4 _ v4 rfl rfl) h4
  refine (modesStream_any n0 n1 A2 A3 A4 m2 c2 m3 c3 m4 c4 l2 l3 l4 W hr2 hr3 hr4 hm4).mono fun e W' ⟨he, hb⟩ => ?_
  subst he
  refine ⟨_, rfl, law_post rfl rfl ?_ hW' rfl hb⟩
  rw [Try.params4]
  decide +kernel
theorem over : Rows.modesStreamRow.holds Try.pinned (OpenSpec.ofChange Rows.modesStreamSpec) :=
  OpenClaim.holds_of_wide 4 Try.f4 rfl rfl rfl rfl rfl rfl rfl ⟨rfl, rfl, rfl, rfl, rfl⟩ rfl rfl rfl rfl rfl (by kernel_rfl) Try.func4 (by kernel_rfl)
    (of_decide_eq_true (by kernel_rfl)) (by unfold Func.isWrapper; first | (rw [if_pos (by decide +kernel)]; kernel_rfl) | (rw [if_neg (by decide +kernel)]; exact ⟨rfl, rfl⟩))
    (fun os started H enc _ => lifted os started H enc)
end LiftModesStream
/-- The statement. -/
theorem modesStream_holds : Rows.ModesStreamSaid := LiftModesStream.over
#print axioms modesStream_holds
end Go.Proofs.Ytiocmebcbhbcmaa
