/-
  'baileylaw13.DiskAll' returns true: the disk and the reference disk never differ, whatever is asked of both. No condition.
-/
import Derived.Test.YtpfijfflfgfojaaDa3
import Derived.OpenShut
namespace Go.Proofs.Ytpfijfflfgfojaa
open Go.RowKit

theorem diskAll_walk (n : Int) (A : Option Addr) (m c : Nat) (os : List OpV) (w : World) (hO : OpsAt w A m os) (hmx : m ≤ maxLen) :
    Calls Try.prog 3 #[.int .i64 n, .slice A m c] w (LawRes w) := by
  by_cases h1 : 40 < n ∧ n ≤ 65536
  · by_cases h2 : 1 ≤ n % 41
    · exact diskAll_in n (n % 41).toNat A m c os w hO (.inl ⟨h1.1, h1.2, by omega⟩) (by omega) (by omega) hmx
    · exact diskAll_nil n (n % 41) A m c w (.inl ⟨h1.1, h1.2, rfl⟩) (.inl (by omega))
  · by_cases h2 : n ≤ 40
    · by_cases h3 : 1 ≤ n
      · exact diskAll_in n n.toNat A m c os w hO (.inr ⟨h2, by omega⟩) (by omega) (by omega) hmx
      · exact diskAll_nil n n A m c w (.inr (.inl ⟨h2, rfl⟩)) (.inl (by omega))
    · exact diskAll_nil n n A m c w (.inr (.inr ⟨by omega, rfl⟩)) (.inr (by omega))

namespace LiftDiskAll
open Go.ChangeShapes Go.WideShapes Go.ChangeAt
set_option linter.unusedVariables false
theorem own : ownKnob Try.prog.godebug = none := by kernel_rfl
set_option maxRecDepth 100000 in
theorem lifted (os : Os) (started : os.Started) (H : Type) (enc : TypeId × Value → H) :
    ReturnsInHanded {} Try.checked os 3 .any (Rows.diskAllSpec.pre6 enc Try.prog Try.f3 Rows.diskAllRow.domain false) (Rows.diskAllSpec.post enc Try.prog Try.f3 false true false false) := by
  refine returnsInHanded_of_change (C := Try.checked) own started (by kernel_rfl) Try.func3
    (ChangeSpec.witness6 (enc := enc) (C := Try.checked) false ⟨#[], #[.int .i64 0, .slice none 0 0], []⟩ 8 (by kernel_rfl) (by kernel_rfl) (by kernel_rfl) (by kernel_rfl)) ?_
  intro W base args ds gs before hval0 hW hcnd _
  have hval : ∀ (j : Nat) t v, Try.f3.params[j]? = some t → args[j]? = some v → Value.okWide Try.prog W .any base t v := hval0
  have hW' := hW
  obtain ⟨p, q, hA0, hV, rfl, hfz, hnd⟩ := hW
  have hA : DataW.TrodAll enc Try.prog W 0 (fun _ => true) true Try.f3.params.toList args.toList ds p := hA0
  rw [Try.params3] at hA hval
  obtain ⟨rfl, rfl⟩ := trodVars_none hV
  obtain ⟨args⟩ := args
  obtain ⟨v0, vs0, d0, ds0, p0, q0, hv0, rfl, _, h0, hA0⟩ := trodAll_cons hA
  obtain ⟨v1, vs1, d1, ds1, p1, q1, hv1, rfl, _, h1, hA1⟩ := trodAll_cons hA0
  obtain ⟨rfl, rfl, _⟩ := trodAll_nil hA1
  subst hv1
  simp only at hv0
  subst hv0
  obtain ⟨n0, rfl, rfl, _, hw0⟩ := open_int Try.underlying3 (hval 0 _ v0 rfl rfl) h0
  obtain ⟨A1, m1, c1, l1, rfl, hm1, hr1⟩ := open_ops (hval 1 _ v1 rfl rfl) h1
  refine (diskAll_walk n0 A1 m1 c1 l1 W hr1 hm1).mono fun e W' ⟨he, hb⟩ => ?_
  subst he
  refine ⟨_, rfl, law_post rfl rfl ?_ hW' rfl hb⟩
  rw [Try.params3]
  decide +kernel
theorem over : Rows.diskAllRow.holds Try.pinned (OpenSpec.ofChange Rows.diskAllSpec) :=
  OpenClaim.holds_of_wide 3 Try.f3 rfl rfl rfl rfl rfl rfl rfl ⟨rfl, rfl, rfl, rfl, rfl⟩ rfl rfl rfl rfl rfl (by kernel_rfl) Try.func3 (by kernel_rfl)
    (of_decide_eq_true (by kernel_rfl)) (by unfold Func.isWrapper; first | (rw [if_pos (by decide +kernel)]; kernel_rfl) | (rw [if_neg (by decide +kernel)]; exact ⟨rfl, rfl⟩))
    (fun os started H enc _ => lifted os started H enc)
end LiftDiskAll
/-- The statement. -/
theorem diskAll_holds : Rows.DiskAllSaid := LiftDiskAll.over
#print axioms diskAll_holds
end Go.Proofs.Ytpfijfflfgfojaa
