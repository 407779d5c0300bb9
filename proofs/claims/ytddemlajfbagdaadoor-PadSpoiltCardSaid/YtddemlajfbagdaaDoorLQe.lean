/-
  THE STATEMENT PadSpoilt, PROVED: of an encoding one byte of which is another one it is said rightly whether it holds; the arguments read as before. The row lists the table hashes.k and two tables of Go's library, tied to the program's text.
-/
import Derived.Test.YtddemlajfbagdaaDoorZzLaid8
import Derived.Test.YtddemlajfbagdaaDoorZzLaid8
import Derived.Test.YtddemlajfbagdaaDoorCards
import Derived.Test.YtddemlajfbagdaaDoorTie
import Derived.SevenTiedAt
namespace Go.Proofs.YtddemlajfbagdaaDoor
open Go.RowKit

namespace LiftPadSpoilt
open Go.ChangeShapes Go.WideShapes Go.ChangeAt
set_option maxRecDepth 100000 in
theorem lifted (os : Os) (started : os.Started) (H : Type) (enc : TypeId × Value → H) :
    ReturnsInHanded {} Tryd.checked os 6 .any (fun w args => (Rows.padSpoiltSpec.pre enc Tryd.prog Tryd.f6 [] false w args ∧ laidMetH Tryd.prog laidK8 w) ∧ sizedMet enc Tryd.prog Tryd.f6 (OpenSpec.ofChange Rows.padSpoiltSpec) false w args)
      (Rows.padSpoiltSpec.post enc Tryd.prog Tryd.f6 false true false false) := by
  refine returnsInHanded_of_change_and (C := Tryd.checked) (X := fun w _ => laidMetH Tryd.prog laidK8 w) (fun _ _ _ hh h => h.of_heap hh) ownKnob_none started (by kernel_rfl) Tryd.func6
    (ChangeSpec.witness_shaped (enc := enc) (C := Tryd.checked) (os := os) (X := fun w _ => laidMetH Tryd.prog laidK8 w) false (World.laidAll Tryd.prog os laidK8) #[.int .i64 0, .slice none 0 0, .slice none 0 0, .int .i64 0, .int .u8 0] 8 (World.laidAll_os _ _ _) (World.shaped_of_ZipB (by kernel_rfl) (by kernel_rfl)) (by kernel_rfl) (by kernel_rfl) (by kernel_rfl) (door_met8 os _)) ?_
  intro W base args ds gs before hval0 hW _ _ hL _
  have hval : ∀ (j : Nat) t v, Tryd.f6.params[j]? = some t → args[j]? = some v → Value.okWide Tryd.prog W .any base t v := hval0
  have hW' := hW
  obtain ⟨p, q, hA0, hV, rfl, hfz, hnd⟩ := hW
  have hA : DataW.TrodAll enc Tryd.prog W 0 (fun _ => true) true Tryd.f6.params.toList args.toList ds p := hA0
  rw [Tryd.params6] at hA hval
  obtain ⟨rfl, rfl⟩ := trodVars_none hV
  obtain ⟨args⟩ := args
  obtain ⟨v0, vs0, d0, ds0, p0, q0, hv0, rfl, _, h0, hA0⟩ := trodAll_cons hA
  obtain ⟨v1, vs1, d1, ds1, p1, q1, hv1, rfl, _, h1, hA1⟩ := trodAll_cons hA0
  obtain ⟨v2, vs2, d2, ds2, p2, q2, hv2, rfl, _, h2, hA2⟩ := trodAll_cons hA1
  obtain ⟨v3, vs3, d3, ds3, p3, q3, hv3, rfl, _, h3, hA3⟩ := trodAll_cons hA2
  obtain ⟨v4, vs4, d4, ds4, p4, q4, hv4, rfl, _, h4, hA4⟩ := trodAll_cons hA3
  obtain ⟨rfl, rfl, _⟩ := trodAll_nil hA4
  subst hv4
  subst hv3
  subst hv2
  subst hv1
  simp only at hv0
  subst hv0
  obtain ⟨n0, rfl, rfl, _, hw0⟩ := open_int Tryd.underlying3 (hval 0 _ v0 rfl rfl) h0
  obtain ⟨A1, m1, c1, l1, rfl, hr1⟩ := open_rd (hval 1 _ v1 rfl rfl) h1
  obtain ⟨A2, m2, c2, l2, rfl, hr2⟩ := open_rd (hval 2 _ v2 rfl rfl) h2
  obtain ⟨n3, rfl, rfl, _, hw3⟩ := open_int Tryd.underlying3 (hval 3 _ v3 rfl rfl) h3
  obtain ⟨n4, rfl, rfl, _, hw4⟩ := open_int Tryd.underlying5 (hval 4 _ v4 rfl rfl) h4
  obtain ⟨x4, rfl⟩ := u8_wf hw4
  refine (padSpoilt_any n0 n3 x4 A1 A2 m1 c1 m2 c2 l1 l2 W hr1 hr2 (kat_of_laid8 hL) (i64_wf hw3).1 (i64_wf hw3).2).mono fun e W' ⟨he, hb⟩ => ?_
  subst he
  refine ⟨_, rfl, law_post rfl rfl ?_ hW' rfl hb⟩
  rw [Tryd.params6]
  decide +kernel
theorem over : Rows.padSpoiltRow.holds Tryd.pinned (OpenSpec.ofChange Rows.padSpoiltSpec) :=
  OpenClaim.holds_of_wide 6 Tryd.f6 rfl rfl rfl rfl rfl rfl rfl ⟨rfl, rfl, rfl, rfl, rfl⟩ rfl rfl rfl rfl rfl (by kernel_rfl) Tryd.func6 (by kernel_rfl)
    (of_decide_eq_true (by kernel_rfl)) (by unfold Func.isWrapper; first | (rw [if_pos (by decide +kernel)]; kernel_rfl) | (rw [if_neg (by decide +kernel)]; exact ⟨rfl, rfl⟩))
    (fun os started H enc _ => lifted os started H enc)
theorem card : Rows.PadSpoiltCardSaid :=
  Claim7.holds_tied_plain_at .later [] [.data, .data, .pinned] true (true, "bab58f0bb40251d3a30b4b70e19f7dd5126c4074a9e87c38b5a0e3a79fbe3559") false
    over (fun _ h => by cases h) (by kernel_rfl) (fun _ h => by cases h) padSpoilt_row_tie rfl ⟨rfl, rfl⟩ (by kernel_rfl) rfl
    (fun f fn hf hfn => by
      obtain rfl : f = 6 := Option.some.inj ((show Tryd.prog.funcNamed "bailey/baileylaw8.PadSpoilt" = some 6 by kernel_rfl).symm.trans hf) |>.symm
      obtain rfl : fn = Tryd.f6 := (Option.some.inj (Tryd.func6.symm.trans hfn)).symm
      exact ⟨by kernel_rfl, fun j t ht => by
        rw [Tryd.params6] at ht
        have hm : t ∈ [3, 22, 22, 3, 5] := by simpa using Array.mem_of_getElem? ht
        have hall : ([3, 22, 22, 3, 5].all fun u => !Tryd.prog.wantsStandIn u) = true := by kernel_rfl
        exact (show Tryd.prog.wantsStandIn t = false by simpa using List.all_eq_true.1 hall t hm)⟩)
    (by kernel_rfl)
end LiftPadSpoilt
/-- The statement. -/
theorem padSpoilt_holds : Rows.PadSpoiltCardSaid := LiftPadSpoilt.card
#print axioms padSpoilt_holds
end Go.Proofs.YtddemlajfbagdaaDoor
