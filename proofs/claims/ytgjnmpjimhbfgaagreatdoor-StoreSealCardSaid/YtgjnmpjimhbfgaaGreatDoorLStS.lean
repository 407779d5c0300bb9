/-
  THE STATEMENT StoreSeal, PROVED: what is sealed is opened by the same key alone, and is GCM's bytes, for every key, nonce, text, place and byte; the arguments read as before. The row lists the table hashes.k, tied to the program's text.
-/
import Derived.Test.YtgjnmpjimhbfgaaGreatDoorZzSm23
import Derived.Test.YtgjnmpjimhbfgaaGreatDoorLaid3
import Derived.Test.YtgjnmpjimhbfgaaGreatDoorCards
import Derived.Test.YtgjnmpjimhbfgaaGreatDoorTie
import Derived.SevenTiedAt
namespace Go.Proofs.YtgjnmpjimhbfgaaGreatDoor
set_option maxRecDepth 100000
open Go.RowKit
namespace LiftStoreSeal
open Go.ChangeShapes Go.WideShapes Go.ChangeAt
set_option maxRecDepth 100000 in
theorem lifted (os : Os) (started : os.Started) (H : Type) (enc : TypeId × Value → H) :
  ReturnsInHanded {} Tryz.checked os 4 .any (fun w args => (Rows.storeSealSpec.pre enc Tryz.prog Tryz.f4 [] false w args ∧ laidMetH Tryz.prog laidK w) ∧ sizedMet enc Tryz.prog Tryz.f4 (OpenSpec.ofChange Rows.storeSealSpec) false w args)
   (Rows.storeSealSpec.post enc Tryz.prog Tryz.f4 false true false false) := by
 refine returnsInHanded_of_change_and (C := Tryz.checked) (X := fun w _ => laidMetH Tryz.prog laidK w) (fun _ _ _ hh h => h.of_heap hh) ownKnob_none started (by kernel_rfl) Tryz.func4
  (ChangeSpec.witness_shaped (enc := enc) (C := Tryz.checked) (os := os) (X := fun w _ => laidMetH Tryz.prog laidK w) false (World.doorLaid Tryz.prog 400 os) #[.slice none 0 0, .slice none 0 0, .slice none 0 0, .int .i64 0, .int .u8 0] 8 rfl (World.shaped_of_RefB (by kernel_rfl) (by kernel_rfl)) (by kernel_rfl) (by kernel_rfl) (by kernel_rfl) (door_met os _)) ?_
 intro W base args ds gs before hval0 hW _ _ hL _
 have hval : ∀ (j : Nat) t v, Tryz.f4.params[j]? = some t → args[j]? = some v → Value.okWide Tryz.prog W .any base t v := hval0
 have hW' := hW
 obtain ⟨p, q, hA0, hV, rfl, hfz, hnd⟩ := hW
 have hA : DataW.TrodAll enc Tryz.prog W 0 (fun _ => true) true Tryz.f4.params.toList args.toList ds p := hA0
 rw [Tryz.params4] at hA hval
 obtain ⟨rfl, rfl⟩ := trodVars_none hV
 obtain ⟨args⟩ := args
 obtain ⟨v0, vs0, d0, ds0, p0, q0, hv0, rfl, _, h0, hA0⟩ := trodAll_cons hA
 obtain ⟨v1, vs1, d1, ds1, p1, q1, hv1, rfl, _, h1, hA1⟩ := trodAll_cons hA0
 obtain ⟨v2, vs2, d2, ds2, p2, q2, hv2, rfl, _, h2, hA2⟩ := trodAll_cons hA1
 obtain ⟨v3, vs3, d3, ds3, p3, q3, hv3, rfl, _, h3, hA3⟩ := trodAll_cons hA2
 obtain ⟨v4, vs4, d4, ds4, p4, q4, hv4, rfl, _, h4, hA4⟩ := trodAll_cons hA3
 obtain ⟨rfl, rfl, _⟩ := trodAll_nil hA4
 subst hv4
 subst hv3
 subst hv2
 subst hv1
 simp only at hv0
 subst hv0
 obtain ⟨A0, m0, c0, l0, rfl, hr0⟩ := open_rd (hval 0 _ v0 rfl rfl) h0
 obtain ⟨A1, m1, c1, l1, rfl, hr1⟩ := open_rd (hval 1 _ v1 rfl rfl) h1
 obtain ⟨A2, m2, c2, l2, rfl, hr2⟩ := open_rd (hval 2 _ v2 rfl rfl) h2
 obtain ⟨n3, rfl, rfl, _, hw3⟩ := open_int Tryz.underlying3 (hval 3 _ v3 rfl rfl) h3
 obtain ⟨n4, rfl, rfl, _, hw4⟩ := open_int Tryz.underlying5 (hval 4 _ v4 rfl rfl) h4
 obtain ⟨x4, rfl⟩ := u8_wf hw4
 refine (storeSeal_any A0 A1 A2 m0 c0 m1 c1 m2 c2 l0 l1 l2 n3 x4 W (kat_of_laid hL) hr0 hr1 hr2 (i64_wf hw3).1 (i64_wf hw3).2).mono fun e W' ⟨he, hb⟩ => ?_
 subst he
 refine ⟨_, rfl, law_post rfl rfl ?_ hW' rfl hb⟩
 rw [Tryz.params4]
 decide +kernel
theorem over : Rows.storeSealRow.holds Tryz.pinned (OpenSpec.ofChange Rows.storeSealSpec) :=
 OpenClaim.holds_of_wide 4 Tryz.f4 rfl rfl rfl rfl rfl rfl rfl ⟨rfl, rfl, rfl, rfl, rfl⟩ rfl rfl rfl rfl rfl (by kernel_rfl) Tryz.func4 (by kernel_rfl)
  (of_decide_eq_true (by kernel_rfl)) (by unfold Func.isWrapper; first | (rw [if_pos (by decide +kernel)]; kernel_rfl) | (rw [if_neg (by decide +kernel)]; exact ⟨rfl, rfl⟩))
  (fun os started H enc _ => lifted os started H enc)
theorem card : Rows.StoreSealCardSaid :=
 Claim7.holds_tied_plain_at .later [] [.data] true (true, "15d1f2f2ffabd3e9456165f2da9f03994a2e0a69cf81981a2d3d059918a04596") false
  over (fun _ h => by cases h) (by kernel_rfl) (fun _ h => by cases h) storeSeal_row_tie rfl ⟨rfl, rfl⟩ (by kernel_rfl) rfl
  (fun f fn hf hfn => by
   obtain rfl : f = 4 := Option.some.inj ((show Tryz.prog.funcNamed "bailey/baileylaw15.StoreSeal" = some 4 by kernel_rfl).symm.trans hf) |>.symm
   obtain rfl : fn = Tryz.f4 := (Option.some.inj (Tryz.func4.symm.trans hfn)).symm
   exact ⟨by kernel_rfl, fun j t ht => by
    rw [Tryz.params4] at ht
    have hm : t ∈ [32, 32, 32, 3, 5] := by simpa using Array.mem_of_getElem? ht
    have hall : ([32, 32, 32, 3, 5].all fun u => !Tryz.prog.wantsStandIn u) = true := by kernel_rfl
    exact (show Tryz.prog.wantsStandIn t = false by simpa using List.all_eq_true.1 hall t hm)⟩)
  (by kernel_rfl)
end LiftStoreSeal
theorem storeSeal_holds : Rows.StoreSealCardSaid := LiftStoreSeal.card
#print axioms storeSeal_holds
end Go.Proofs.YtgjnmpjimhbfgaaGreatDoor
