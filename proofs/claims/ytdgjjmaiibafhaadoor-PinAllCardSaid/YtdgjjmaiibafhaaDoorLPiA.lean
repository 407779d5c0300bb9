/-
  THE STATEMENT PinAll, PROVED: whatever the operations, program and reference answer alike. The row lists the table hashes.k, tied to the program's text.
-/
import Derived.Test.YtdgjjmaiibafhaaDoorPin9
import Derived.Test.YtdgjjmaiibafhaaDoorLaid3
import Derived.Test.YtdgjjmaiibafhaaDoorCards
import Derived.Test.YtdgjjmaiibafhaaDoorTie
import Derived.SevenTiedAt
namespace Go.Proofs.YtdgjjmaiibafhaaDoor
open Go.RowKit

namespace LiftPinAll
open Go.ChangeShapes Go.WideShapes Go.ChangeAt
set_option maxRecDepth 100000 in
theorem lifted (os : Os) (started : os.Started) (H : Type) (enc : TypeId × Value → H) :
    ReturnsInHanded {} Tryd.checked os 4 .any (fun w args => (Rows.pinAllSpec.pre enc Tryd.prog Tryd.f4 [] false w args ∧ laidMetH Tryd.prog laidK w) ∧ sizedMet enc Tryd.prog Tryd.f4 (OpenSpec.ofChange Rows.pinAllSpec) false w args)
      (Rows.pinAllSpec.post enc Tryd.prog Tryd.f4 false true false false) := by
  refine returnsInHanded_of_change_and (C := Tryd.checked) (X := fun w _ => laidMetH Tryd.prog laidK w) (fun _ _ _ hh h => h.of_heap hh) ownKnob_none started (by kernel_rfl) Tryd.func4
    (ChangeSpec.witness_shaped (enc := enc) (C := Tryd.checked) (os := os) (X := fun w _ => laidMetH Tryd.prog laidK w) false (World.doorLaid Tryd.prog 400 os) #[.slice none 0 0, .slice none 0 0] 8 rfl (World.shaped_of_RefB (by kernel_rfl) (by kernel_rfl)) (by kernel_rfl) (by kernel_rfl) (by kernel_rfl) (door_met os _)) ?_
  intro W base args ds gs before hval0 hW _ hsz hL _
  have hval : ∀ (j : Nat) t v, Tryd.f4.params[j]? = some t → args[j]? = some v → Value.okWide Tryd.prog W .any base t v := hval0
  have hW' := hW
  obtain ⟨p, q, hA0, hV, rfl, hfz, hnd⟩ := hW
  have hA : DataW.TrodAll enc Tryd.prog W 0 (fun _ => true) true Tryd.f4.params.toList args.toList ds p := hA0
  rw [Tryd.params4] at hA hval hsz
  obtain ⟨rfl, rfl⟩ := trodVars_none hV
  obtain ⟨args⟩ := args
  obtain ⟨v0, vs0, d0, ds0, p0, q0, hv0, rfl, _, h0, hA0⟩ := trodAll_cons hA
  obtain ⟨v1, vs1, d1, ds1, p1, q1, hv1, rfl, _, h1, hA1⟩ := trodAll_cons hA0
  obtain ⟨rfl, rfl, _⟩ := trodAll_nil hA1
  subst hv1
  simp only at hv0
  subst hv0
  obtain ⟨A0, m0, c0, l0, rfl, hm0, hr0⟩ := open_rdB (hval 0 _ v0 rfl rfl) h0 (fun q hq => by simpa using List.all_eq_true.1 hsz q (DataW.weights_mem_each (j := 0) (t := 22) rfl rfl q hq))
  obtain ⟨A1, m1, c1, l1, rfl, hm1, hr1⟩ := open_ops21 (hval 1 _ v1 rfl rfl) h1
  refine (pinAll_any A0 m0 c0 l0 A1 m1 c1 l1 W (kat_of_laid hL) hm0 hr0 hm1 hr1).mono fun e W' ⟨he, hb⟩ => ?_
  subst he
  refine ⟨_, rfl, law_post rfl rfl ?_ hW' rfl hb⟩
  rw [Tryd.params4]
  decide +kernel
theorem over : Rows.pinAllRow.holds Tryd.pinned (OpenSpec.ofChange Rows.pinAllSpec) :=
  OpenClaim.holds_of_wide 4 Tryd.f4 rfl rfl rfl rfl rfl rfl rfl ⟨rfl, rfl, rfl, rfl, rfl⟩ rfl rfl rfl rfl rfl (by kernel_rfl) Tryd.func4 (by kernel_rfl)
    (of_decide_eq_true (by kernel_rfl)) (by unfold Func.isWrapper; first | (rw [if_pos (by decide +kernel)]; kernel_rfl) | (rw [if_neg (by decide +kernel)]; exact ⟨rfl, rfl⟩))
    (fun os started H enc _ => lifted os started H enc)
theorem card : Rows.PinAllCardSaid :=
  Claim7.holds_tied_plain_at .later [] [.data] true (true, "0f01dcc4d194968f9474a74e10ecd5171e636f731a7214f9886aa90c2d48dac9") false
    over (fun _ h => by cases h) (by kernel_rfl) (fun _ h => by cases h) pinAll_row_tie rfl ⟨rfl, rfl⟩ (by kernel_rfl) rfl
    (fun f fn hf hfn => by
      obtain rfl : f = 4 := Option.some.inj ((show Tryd.prog.funcNamed "bailey/baileylaw21.PinAll" = some 4 by kernel_rfl).symm.trans hf) |>.symm
      obtain rfl : fn = Tryd.f4 := (Option.some.inj (Tryd.func4.symm.trans hfn)).symm
      exact ⟨by kernel_rfl, fun j t ht => by
        rw [Tryd.params4] at ht
        have hm : t ∈ [22, 30] := by simpa using Array.mem_of_getElem? ht
        have hall : ([22, 30].all fun u => !Tryd.prog.wantsStandIn u) = true := by kernel_rfl
        exact (show Tryd.prog.wantsStandIn t = false by simpa using List.all_eq_true.1 hall t hm)⟩)
    (by kernel_rfl)
end LiftPinAll
/-- The statement. -/
theorem pinAll_holds : Rows.PinAllCardSaid := LiftPinAll.card
#print axioms pinAll_holds
end Go.Proofs.YtdgjjmaiibafhaaDoor
