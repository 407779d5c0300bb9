/-
  THE STATEMENT StoreCrash, PROVED (its second form): when the device dies at any write of a transaction, and any unsynced sectors are lost, the store is as before it or as behind it; the arguments read as before. The row lists the table hashes.k, tied to the program's text; what is read is of bulk at most 1048576.
-/
import Derived.Test.YtgjnmpjimhbfgaaGreatDoorZzSm30
import Derived.Test.YtgjnmpjimhbfgaaGreatDoorLaid3
import Derived.Test.YtgjnmpjimhbfgaaGreatDoorCards
import Derived.Test.YtgjnmpjimhbfgaaGreatDoorTie
import Derived.SevenTiedAt
import Derived.Deep.DeepHandedRow
import Derived.Deep.DeepWitnessRowRef
import Derived.JoinedCond
namespace Go.Proofs.YtgjnmpjimhbfgaaGreatDoor
set_option maxRecDepth 100000
open Go.RowKit
namespace LiftStoreCrash
open Go.ChangeShapes Go.WideShapes Go.ChangeAt
theorem reads (os : Os) {H : Type} (enc : TypeId × Value → H) : ∃ places, DataW.whole enc Tryz.prog ((World.doorLaid Tryz.prog 400 os).forCall (fun _ _ => 0) ⟨#[], #[.int .i64 0, .slice none 0 0, .slice none 0 0, .int .i64 0, .slice none 0 0], []⟩).memory Tryz.f8.params.toList Rows.storeCrashSpec.vars false (#[.int .i64 0, .slice none 0 0, .slice none 0 0, .int .i64 0, .slice none 0 0] : Array Value).toList 8 = some ([.lit (.int .i64 0), .nil, .nil, .lit (.int .i64 0), .nil], [], places) :=
 ⟨[], by kernel_rfl⟩
set_option maxRecDepth 100000 in
theorem lifted (os : Os) (started : os.Started) (H : Type) (enc : TypeId × Value → H) (F : Stop.Interp) :
  ReturnsInHanded {} Tryz.checked os 8 .any ((Rows.OpenSpec.upto Rows.storeCrashSpec).preRow enc Tryz.prog Tryz.f8 Rows.storeCrashUptoRow.domain false Rows.storeCrashUptoRow.laid) (((Rows.OpenSpec.upto Rows.storeCrashSpec).at F).post enc Tryz.prog Tryz.f8 false true false false) := by
 obtain ⟨places, hx⟩ := reads os enc
 refine returnsInHanded_of_row (C := Tryz.checked) (s := Rows.OpenSpec.upto Rows.storeCrashSpec) ownKnob_none started (by kernel_rfl) Tryz.func8
  (witness_row_atRef (enc := enc) (C := Tryz.checked) false (World.doorLaid Tryz.prog 400 os) #[.int .i64 0, .slice none 0 0, .slice none 0 0, .int .i64 0, .slice none 0 0] rfl (by kernel_rfl) (by kernel_rfl) (by kernel_rfl)
   (OpenSpec.preRow_of_cond 8 hx (by kernel_rfl) (fun k hk => by cases hk; kernel_rfl) (by kernel_rfl) (door_met os _))) ?_
 intro W base args ds gs before hval0 hW _ _ _ hL _ _
 have hval : ∀ (j : Nat) t v, Tryz.f8.params[j]? = some t → args[j]? = some v → Value.okWide Tryz.prog W .any base t v := hval0
 have hW' := hW
 obtain ⟨p, q, hA0, hV, rfl, hfz, hnd⟩ := hW
 have hA : DataW.TrodAll enc Tryz.prog W 0 (fun _ => true) true Tryz.f8.params.toList args.toList ds p := hA0
 rw [Tryz.params8] at hA hval
 obtain ⟨rfl, rfl⟩ := trodVars_none hV
 obtain ⟨args⟩ := args
 obtain ⟨v0, vs0, d0, ds0, p0, q0, hv0, rfl, _, h0, hA0⟩ := trodAll_cons hA
 obtain ⟨v1, vs1, d1, ds1, p1, q1, hv1, rfl, _, h1, hA1⟩ := trodAll_cons hA0
 obtain ⟨v2, vs2, d2, ds2, p2, q2, hv2, rfl, _, h2, hA2⟩ := trodAll_cons hA1
 obtain ⟨v3, vs3, d3, ds3, p3, q3, hv3, rfl, _, h3, hA3⟩ := trodAll_cons hA2
 obtain ⟨v4, vs4, d4, ds4, p4, q4, hv4, rfl, _, h4, hA4⟩ := trodAll_cons hA3
 obtain ⟨rfl, rfl, _⟩ := trodAll_nil hA4
 subst hv4
 subst hv3
 subst hv2
 subst hv1
 simp only at hv0
 subst hv0
 obtain ⟨n0, rfl, rfl, _, hw0⟩ := open_int Tryz.underlying3 (hval 0 _ v0 rfl rfl) h0
 obtain ⟨A1, m1, c1, l1, rfl, hm1, hr1⟩ := open_chss (hval 1 _ v1 rfl rfl) h1
 obtain ⟨A2, m2, c2, l2, rfl, hm2, hr2⟩ := open_chsB (hval 2 _ v2 rfl rfl) h2
 obtain ⟨n3, rfl, rfl, _, hw3⟩ := open_int Tryz.underlying3 (hval 3 _ v3 rfl rfl) h3
 obtain ⟨A4, m4, c4, l4, rfl, hm4, hr4⟩ := open_bools (hval 4 _ v4 rfl rfl) h4
 refine (storeCrash_any n0 A1 m1 c1 l1 A2 m2 c2 l2 n3 A4 m4 c4 l4 W (kat_of_laid hL) (i64_wf hw0).1 (i64_wf hw0).2 hr1 (by unfold maxLen at hm1; omega) hr2 (by unfold maxLen at hm2; omega) (i64_wf hw3).2 hr4 (by unfold maxLen at hm4; omega)).mono fun e W' ⟨he, hb⟩ => ?_
 subst he
 refine ⟨_, rfl, law_post rfl rfl ?_ hW' rfl hb⟩
 rw [Tryz.params8]
 decide +kernel
theorem over : Rows.StoreCrashUptoSaid :=
 OpenClaim.holds_of_cond 8 Tryz.f8 rfl rfl rfl rfl rfl rfl rfl ⟨rfl, rfl, rfl, rfl, rfl⟩ rfl rfl rfl rfl rfl (by kernel_rfl) Tryz.func8 (by kernel_rfl)
  (of_decide_eq_true (by kernel_rfl)) (by unfold Func.isWrapper; first | (rw [if_pos (by decide +kernel)]; kernel_rfl) | (rw [if_neg (by decide +kernel)]; exact ⟨rfl, rfl⟩))
  (fun os started H enc _ F => by rw [OpenClaim.pre_eq_preRow]; exact lifted os started H enc F)
theorem card : Rows.StoreCrashUptoCardSaid :=
 Claim7.holds_tied_plain_at .later [] [.data] true (true, "15d1f2f2ffabd3e9456165f2da9f03994a2e0a69cf81981a2d3d059918a04596") false
  over (fun _ h => by cases h) (by kernel_rfl) (fun _ h => by cases h) storeCrashUpto_row_tie rfl ⟨rfl, rfl⟩ (by kernel_rfl) rfl
  (fun f fn hf hfn => by
   obtain rfl : f = 8 := Option.some.inj ((show Tryz.prog.funcNamed "bailey/baileylaw15.StoreCrash" = some 8 by kernel_rfl).symm.trans hf) |>.symm
   obtain rfl : fn = Tryz.f8 := (Option.some.inj (Tryz.func8.symm.trans hfn)).symm
   exact ⟨by kernel_rfl, fun j t ht => by
    rw [Tryz.params8] at ht
    have hm : t ∈ [3, 56, 61, 3, 62] := by simpa using Array.mem_of_getElem? ht
    have hall : ([3, 56, 61, 3, 62].all fun u => !Tryz.prog.wantsStandIn u) = true := by kernel_rfl
    exact (show Tryz.prog.wantsStandIn t = false by simpa using List.all_eq_true.1 hall t hm)⟩)
  (by kernel_rfl)
end LiftStoreCrash
theorem storeCrashUpto_holds : Rows.StoreCrashUptoCardSaid := LiftStoreCrash.card
#print axioms storeCrashUpto_holds
end Go.Proofs.YtgjnmpjimhbfgaaGreatDoor
