/-
  THE STATEMENT StoreFull, PROVED: a store takes just as much as its room, and not one byte more, for all three numbers. The row lists the table hashes.k, tied to the program's text.
-/
import Derived.Test.YtgjnmpjimhbfgaaGreatDoorZzSm22
import Derived.Test.YtgjnmpjimhbfgaaGreatDoorLaid3
import Derived.Test.YtgjnmpjimhbfgaaGreatDoorCards
import Derived.Test.YtgjnmpjimhbfgaaGreatDoorTie
import Derived.SevenTiedAt
namespace Go.Proofs.YtgjnmpjimhbfgaaGreatDoor
set_option maxRecDepth 100000
open Go.RowKit
namespace LiftStoreFull
open Go.ChangeShapes Go.WideShapes Go.ChangeAt
set_option maxRecDepth 100000 in
theorem lifted (os : Os) (started : os.Started) (H : Type) (enc : TypeId × Value → H) :
  ReturnsInHanded {} Tryz.checked os 3 .any (fun w args => (Rows.storeFullSpec.pre enc Tryz.prog Tryz.f3 [] false w args ∧ laidMetH Tryz.prog laidK w) ∧ sizedMet enc Tryz.prog Tryz.f3 (OpenSpec.ofChange Rows.storeFullSpec) false w args)
   (Rows.storeFullSpec.post enc Tryz.prog Tryz.f3 false true false false) := by
 refine returnsInHanded_of_change_and (C := Tryz.checked) (X := fun w _ => laidMetH Tryz.prog laidK w) (fun _ _ _ hh h => h.of_heap hh) ownKnob_none started (by kernel_rfl) Tryz.func3
  (ChangeSpec.witness_shaped (enc := enc) (C := Tryz.checked) (os := os) (X := fun w _ => laidMetH Tryz.prog laidK w) false (World.doorLaid Tryz.prog 400 os) #[.int .i64 0, .int .i64 0, .int .i64 0] 8 rfl (World.shaped_of_RefB (by kernel_rfl) (by kernel_rfl)) (by kernel_rfl) (by kernel_rfl) (by kernel_rfl) (door_met os _)) ?_
 intro W base args ds gs before hval0 hW _ _ hL _
 have hval : ∀ (j : Nat) t v, Tryz.f3.params[j]? = some t → args[j]? = some v → Value.okWide Tryz.prog W .any base t v := hval0
 have hW' := hW
 obtain ⟨p, q, hA0, hV, rfl, hfz, hnd⟩ := hW
 have hA : DataW.TrodAll enc Tryz.prog W 0 (fun _ => true) true Tryz.f3.params.toList args.toList ds p := hA0
 rw [Tryz.params3] at hA hval
 obtain ⟨rfl, rfl⟩ := trodVars_none hV
 obtain ⟨args⟩ := args
 obtain ⟨v0, vs0, d0, ds0, p0, q0, hv0, rfl, _, h0, hA0⟩ := trodAll_cons hA
 obtain ⟨v1, vs1, d1, ds1, p1, q1, hv1, rfl, _, h1, hA1⟩ := trodAll_cons hA0
 obtain ⟨v2, vs2, d2, ds2, p2, q2, hv2, rfl, _, h2, hA2⟩ := trodAll_cons hA1
 obtain ⟨rfl, rfl, _⟩ := trodAll_nil hA2
 subst hv2
 subst hv1
 simp only at hv0
 subst hv0
 obtain ⟨n0, rfl, rfl, _, hw0⟩ := open_int Tryz.underlying3 (hval 0 _ v0 rfl rfl) h0
 obtain ⟨n1, rfl, rfl, _, hw1⟩ := open_int Tryz.underlying3 (hval 1 _ v1 rfl rfl) h1
 obtain ⟨n2, rfl, rfl, _, hw2⟩ := open_int Tryz.underlying3 (hval 2 _ v2 rfl rfl) h2
 refine (storeFull_any n0 n1 n2 W (kat_of_laid hL) (i64_wf hw0).1 (i64_wf hw0).2).mono fun e W' ⟨he, hb⟩ => ?_
 subst he
 refine ⟨_, rfl, law_post rfl rfl ?_ hW' rfl hb⟩
 rw [Tryz.params3]
 decide +kernel
theorem over : Rows.storeFullRow.holds Tryz.pinned (OpenSpec.ofChange Rows.storeFullSpec) :=
 OpenClaim.holds_of_wide 3 Tryz.f3 rfl rfl rfl rfl rfl rfl rfl ⟨rfl, rfl, rfl, rfl, rfl⟩ rfl rfl rfl rfl rfl (by kernel_rfl) Tryz.func3 (by kernel_rfl)
  (of_decide_eq_true (by kernel_rfl)) (by unfold Func.isWrapper; first | (rw [if_pos (by decide +kernel)]; kernel_rfl) | (rw [if_neg (by decide +kernel)]; exact ⟨rfl, rfl⟩))
  (fun os started H enc _ => lifted os started H enc)
theorem card : Rows.StoreFullCardSaid :=
 Claim7.holds_tied_plain_at .later [] [.data] true (true, "15d1f2f2ffabd3e9456165f2da9f03994a2e0a69cf81981a2d3d059918a04596") false
  over (fun _ h => by cases h) (by kernel_rfl) (fun _ h => by cases h) storeFull_row_tie rfl ⟨rfl, rfl⟩ (by kernel_rfl) rfl
  (fun f fn hf hfn => by
   obtain rfl : f = 3 := Option.some.inj ((show Tryz.prog.funcNamed "bailey/baileylaw15.StoreFull" = some 3 by kernel_rfl).symm.trans hf) |>.symm
   obtain rfl : fn = Tryz.f3 := (Option.some.inj (Tryz.func3.symm.trans hfn)).symm
   exact ⟨by kernel_rfl, fun j t ht => by
    rw [Tryz.params3] at ht
    have hm : t ∈ [3, 3, 3] := by simpa using Array.mem_of_getElem? ht
    have hall : ([3, 3, 3].all fun u => !Tryz.prog.wantsStandIn u) = true := by kernel_rfl
    exact (show Tryz.prog.wantsStandIn t = false by simpa using List.all_eq_true.1 hall t hm)⟩)
  (by kernel_rfl)
end LiftStoreFull
theorem storeFull_holds : Rows.StoreFullCardSaid := LiftStoreFull.card
#print axioms storeFull_holds
end Go.Proofs.YtgjnmpjimhbfgaaGreatDoor
