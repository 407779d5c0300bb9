/-
  THE STATEMENT FsNone, PROVED: no volume, no device. The row lists the table hashes.k, tied to the program's text.
-/
import Derived.Test.YtomngfihaohgdaaDoorFs12
import Derived.Test.YtomngfihaohgdaaDoorLaid3
import Derived.Test.YtomngfihaohgdaaDoorCards
import Derived.Test.YtomngfihaohgdaaDoorTie
import Derived.SevenTiedAt
namespace Go.Proofs.YtomngfihaohgdaaDoor
open Go.RowKit

namespace LiftFsNone
open Go.ChangeShapes Go.WideShapes Go.ChangeAt
set_option maxRecDepth 100000 in
theorem lifted (os : Os) (started : os.Started) (H : Type) (enc : TypeId × Value → H) :
    ReturnsInHanded {} Tryd.checked os 4 .any (fun w args => (Rows.fsNoneSpec.pre enc Tryd.prog Tryd.f4 [] false w args ∧ laidMetH Tryd.prog laidK w) ∧ sizedMet enc Tryd.prog Tryd.f4 (OpenSpec.ofChange Rows.fsNoneSpec) false w args)
      (Rows.fsNoneSpec.post enc Tryd.prog Tryd.f4 false true false false) := by
  refine returnsInHanded_of_change_and (C := Tryd.checked) (X := fun w _ => laidMetH Tryd.prog laidK w) (fun _ _ _ hh h => h.of_heap hh) ownKnob_none started (by kernel_rfl) Tryd.func4
    (ChangeSpec.witness_shaped (enc := enc) (C := Tryd.checked) (os := os) (X := fun w _ => laidMetH Tryd.prog laidK w) false (World.doorLaid Tryd.prog 400 os) #[] 8 rfl (World.shaped_of_RefB (by kernel_rfl) (by kernel_rfl)) (by kernel_rfl) (by kernel_rfl) (by kernel_rfl) (door_met os _)) ?_
  intro W base args ds gs before hval0 hW _ _ hL _
  have hval : ∀ (j : Nat) t v, Tryd.f4.params[j]? = some t → args[j]? = some v → Value.okWide Tryd.prog W .any base t v := hval0
  have hW' := hW
  obtain ⟨p, q, hA0, hV, rfl, hfz, hnd⟩ := hW
  have hA : DataW.TrodAll enc Tryd.prog W 0 (fun _ => true) true Tryd.f4.params.toList args.toList ds p := hA0
  rw [Tryd.params4] at hA hval
  obtain ⟨rfl, rfl⟩ := trodVars_none hV
  obtain ⟨args⟩ := args
  obtain ⟨rfl, rfl, _⟩ := trodAll_nil hA
  refine (none_any W (kat_of_laid hL)).mono fun e W' ⟨he, hb⟩ => ?_
  subst he
  refine ⟨_, rfl, law_post rfl rfl ?_ hW' rfl hb⟩
  rw [Tryd.params4]
  decide +kernel
theorem over : Rows.fsNoneRow.holds Tryd.pinned (OpenSpec.ofChange Rows.fsNoneSpec) :=
  OpenClaim.holds_of_wide 4 Tryd.f4 rfl rfl rfl rfl rfl rfl rfl ⟨rfl, rfl, rfl, rfl, rfl⟩ rfl rfl rfl rfl rfl (by kernel_rfl) Tryd.func4 (by kernel_rfl)
    (of_decide_eq_true (by kernel_rfl)) (by unfold Func.isWrapper; first | (rw [if_pos (by decide +kernel)]; kernel_rfl) | (rw [if_neg (by decide +kernel)]; exact ⟨rfl, rfl⟩))
    (fun os started H enc _ => lifted os started H enc)
theorem card : Rows.FsNoneCardSaid :=
  Claim7.holds_tied_plain_at .later [] [.data] true (true, "8fda44b150c9fa05d21616ac898619d13b11b6dddadd42576c02bf4c3c54c203") false
    over (fun _ h => by cases h) (by kernel_rfl) (fun _ h => by cases h) fsNone_row_tie rfl ⟨rfl, rfl⟩ (by kernel_rfl) rfl
    (fun f fn hf hfn => by
      obtain rfl : f = 4 := Option.some.inj ((show Tryd.prog.funcNamed "bailey/baileylaw14.FsNone" = some 4 by kernel_rfl).symm.trans hf) |>.symm
      obtain rfl : fn = Tryd.f4 := (Option.some.inj (Tryd.func4.symm.trans hfn)).symm
      exact ⟨by kernel_rfl, fun j t ht => by
        rw [Tryd.params4] at ht
        simp at ht⟩)
    (by kernel_rfl)
end LiftFsNone
/-- The statement. -/
theorem fsNone_holds : Rows.FsNoneCardSaid := LiftFsNone.card
#print axioms fsNone_holds
end Go.Proofs.YtomngfihaohgdaaDoor
