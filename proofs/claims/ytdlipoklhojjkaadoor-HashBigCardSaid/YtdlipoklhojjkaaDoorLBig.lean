/-
  THE STATEMENT HashBig, PROVED: sizes beyond the limits give nothing. The row lists the table hashes.k, tied to the program's text.
-/
import Derived.Test.YtdlipoklhojjkaaDoorHBig
import Derived.Test.YtdlipoklhojjkaaDoorLaid3
import Derived.Test.YtdlipoklhojjkaaDoorCards
import Derived.Test.YtdlipoklhojjkaaDoorTie
import Derived.SevenTiedAt
namespace Go.Proofs.YtdlipoklhojjkaaDoor
open Go.RowKit

namespace LiftHashBig
open Go.ChangeShapes Go.WideShapes Go.ChangeAt
set_option maxRecDepth 100000 in
theorem lifted (os : Os) (started : os.Started) (H : Type) (enc : TypeId × Value → H) :
    ReturnsInHanded {} Tryd.checked os 10 .any (fun w args => (Rows.hashBigSpec.pre enc Tryd.prog Tryd.f10 [] false w args ∧ laidMetH Tryd.prog laidK w) ∧ sizedMet enc Tryd.prog Tryd.f10 (OpenSpec.ofChange Rows.hashBigSpec) false w args)
      (Rows.hashBigSpec.post enc Tryd.prog Tryd.f10 false true false false) := by
  refine returnsInHanded_of_change_and (C := Tryd.checked) (X := fun w _ => laidMetH Tryd.prog laidK w) (fun _ _ _ hh h => h.of_heap hh) ownKnob_none started (by kernel_rfl) Tryd.func10
    (ChangeSpec.witness_shaped (enc := enc) (C := Tryd.checked) (os := os) (X := fun w _ => laidMetH Tryd.prog laidK w) false (World.doorLaid Tryd.prog 400 os) #[] 8 rfl (World.shaped_of_RefB (by kernel_rfl) (by kernel_rfl)) (by kernel_rfl) (by kernel_rfl) (by kernel_rfl) (door_met os _)) ?_
  intro W base args ds gs before hval0 hW _ _ hL _
  have hval : ∀ (j : Nat) t v, Tryd.f10.params[j]? = some t → args[j]? = some v → Value.okWide Tryd.prog W .any base t v := hval0
  have hW' := hW
  obtain ⟨p, q, hA0, hV, rfl, hfz, hnd⟩ := hW
  have hA : DataW.TrodAll enc Tryd.prog W 0 (fun _ => true) true Tryd.f10.params.toList args.toList ds p := hA0
  rw [Tryd.params10] at hA hval
  obtain ⟨rfl, rfl⟩ := trodVars_none hV
  obtain ⟨args⟩ := args
  obtain ⟨rfl, rfl, _⟩ := trodAll_nil hA
  refine (hashBig_walk W (kat_of_laid hL)).mono fun e W' ⟨he, hb⟩ => ?_
  subst he
  refine ⟨_, rfl, law_post rfl rfl ?_ hW' rfl hb⟩
  rw [Tryd.params10]
  decide +kernel
theorem over : Rows.hashBigRow.holds Tryd.pinned (OpenSpec.ofChange Rows.hashBigSpec) :=
  OpenClaim.holds_of_wide 10 Tryd.f10 rfl rfl rfl rfl rfl rfl rfl ⟨rfl, rfl, rfl, rfl, rfl⟩ rfl rfl rfl rfl rfl (by kernel_rfl) Tryd.func10 (by kernel_rfl)
    (of_decide_eq_true (by kernel_rfl)) (by unfold Func.isWrapper; first | (rw [if_pos (by decide +kernel)]; kernel_rfl) | (rw [if_neg (by decide +kernel)]; exact ⟨rfl, rfl⟩))
    (fun os started H enc _ => lifted os started H enc)
theorem card : Rows.HashBigCardSaid :=
  Claim7.holds_tied_plain_at .later [] [.data] true (true, "5125ff8c2ded4f0237646e5739299c71f5bcde60b01ce759438a91b174ed50a3") false
    over (fun _ h => by cases h) (by kernel_rfl) (fun _ h => by cases h) hashBig_row_tie rfl ⟨rfl, rfl⟩ (by kernel_rfl) rfl
    (fun f fn hf hfn => by
      obtain rfl : f = 10 := Option.some.inj ((show Tryd.prog.funcNamed "bailey/baileylaw3.HashBig" = some 10 by kernel_rfl).symm.trans hf) |>.symm
      obtain rfl : fn = Tryd.f10 := (Option.some.inj (Tryd.func10.symm.trans hfn)).symm
      exact ⟨by kernel_rfl, fun j t ht => by
        rw [Tryd.params10] at ht
        simp at ht⟩)
    (by kernel_rfl)
end LiftHashBig
/-- The statement. -/
theorem hashBig_holds : Rows.HashBigCardSaid := LiftHashBig.card
#print axioms hashBig_holds
end Go.Proofs.YtdlipoklhojjkaaDoor
