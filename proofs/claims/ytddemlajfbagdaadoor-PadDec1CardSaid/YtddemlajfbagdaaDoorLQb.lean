/-
  THE STATEMENT PadDec1, PROVED: any bytes are read as the document says; the arguments read as before. The row lists the table hashes.k and two tables of Go's library, tied to the program's text.
-/
import Derived.Test.YtddemlajfbagdaaDoorZzLaid8
import Derived.Test.YtddemlajfbagdaaDoorZzLaid8
import Derived.Test.YtddemlajfbagdaaDoorCards
import Derived.Test.YtddemlajfbagdaaDoorTie
import Derived.SevenTiedAt
namespace Go.Proofs.YtddemlajfbagdaaDoor
open Go.RowKit

namespace LiftPadDec1
open Go.ChangeShapes Go.WideShapes Go.ChangeAt
set_option maxRecDepth 100000 in
theorem lifted (os : Os) (started : os.Started) (H : Type) (enc : TypeId × Value → H) :
    ReturnsInHanded {} Tryd.checked os 7 .any (fun w args => (Rows.padDec1Spec.pre enc Tryd.prog Tryd.f7 [] false w args ∧ laidMetH Tryd.prog laidK8 w) ∧ sizedMet enc Tryd.prog Tryd.f7 (OpenSpec.ofChange Rows.padDec1Spec) false w args)
      (Rows.padDec1Spec.post enc Tryd.prog Tryd.f7 false true false false) := by
  refine returnsInHanded_of_change_and (C := Tryd.checked) (X := fun w _ => laidMetH Tryd.prog laidK8 w) (fun _ _ _ hh h => h.of_heap hh) ownKnob_none started (by kernel_rfl) Tryd.func7
    (ChangeSpec.witness_shaped (enc := enc) (C := Tryd.checked) (os := os) (X := fun w _ => laidMetH Tryd.prog laidK8 w) false (World.laidAll Tryd.prog os laidK8) #[.slice none 0 0] 8 (World.laidAll_os _ _ _) (World.shaped_of_ZipB (by kernel_rfl) (by kernel_rfl)) (by kernel_rfl) (by kernel_rfl) (by kernel_rfl) (door_met8 os _)) ?_
  intro W base args ds gs before hval0 hW _ _ hL _
  have hval : ∀ (j : Nat) t v, Tryd.f7.params[j]? = some t → args[j]? = some v → Value.okWide Tryd.prog W .any base t v := hval0
  have hW' := hW
  obtain ⟨p, q, hA0, hV, rfl, hfz, hnd⟩ := hW
  have hA : DataW.TrodAll enc Tryd.prog W 0 (fun _ => true) true Tryd.f7.params.toList args.toList ds p := hA0
  rw [Tryd.params7] at hA hval
  obtain ⟨rfl, rfl⟩ := trodVars_none hV
  obtain ⟨args⟩ := args
  obtain ⟨v0, vs0, d0, ds0, p0, q0, hv0, rfl, _, h0, hA0⟩ := trodAll_cons hA
  obtain ⟨rfl, rfl, _⟩ := trodAll_nil hA0
  simp only at hv0
  subst hv0
  obtain ⟨A0, m0, c0, l0, rfl, hr0⟩ := open_rd (hval 0 _ v0 rfl rfl) h0
  refine (padDec1_any A0 m0 c0 l0 W hr0 (kat_of_laid8 hL)).mono fun e W' ⟨he, hb⟩ => ?_
  subst he
  refine ⟨_, rfl, law_post rfl rfl ?_ hW' rfl hb⟩
  rw [Tryd.params7]
  decide +kernel
theorem over : Rows.padDec1Row.holds Tryd.pinned (OpenSpec.ofChange Rows.padDec1Spec) :=
  OpenClaim.holds_of_wide 7 Tryd.f7 rfl rfl rfl rfl rfl rfl rfl ⟨rfl, rfl, rfl, rfl, rfl⟩ rfl rfl rfl rfl rfl (by kernel_rfl) Tryd.func7 (by kernel_rfl)
    (of_decide_eq_true (by kernel_rfl)) (by unfold Func.isWrapper; first | (rw [if_pos (by decide +kernel)]; kernel_rfl) | (rw [if_neg (by decide +kernel)]; exact ⟨rfl, rfl⟩))
    (fun os started H enc _ => lifted os started H enc)
theorem card : Rows.PadDec1CardSaid :=
  Claim7.holds_tied_plain_at .later [] [.data, .data, .pinned] true (true, "bab58f0bb40251d3a30b4b70e19f7dd5126c4074a9e87c38b5a0e3a79fbe3559") false
    over (fun _ h => by cases h) (by kernel_rfl) (fun _ h => by cases h) padDec1_row_tie rfl ⟨rfl, rfl⟩ (by kernel_rfl) rfl
    (fun f fn hf hfn => by
      obtain rfl : f = 7 := Option.some.inj ((show Tryd.prog.funcNamed "bailey/baileylaw8.PadDec1" = some 7 by kernel_rfl).symm.trans hf) |>.symm
      obtain rfl : fn = Tryd.f7 := (Option.some.inj (Tryd.func7.symm.trans hfn)).symm
      exact ⟨by kernel_rfl, fun j t ht => by
        rw [Tryd.params7] at ht
        have hm : t ∈ [22] := by simpa using Array.mem_of_getElem? ht
        have hall : ([22].all fun u => !Tryd.prog.wantsStandIn u) = true := by kernel_rfl
        exact (show Tryd.prog.wantsStandIn t = false by simpa using List.all_eq_true.1 hall t hm)⟩)
    (by kernel_rfl)
end LiftPadDec1
/-- The statement. -/
theorem padDec1_holds : Rows.PadDec1CardSaid := LiftPadDec1.card
#print axioms padDec1_holds
end Go.Proofs.YtddemlajfbagdaaDoor
