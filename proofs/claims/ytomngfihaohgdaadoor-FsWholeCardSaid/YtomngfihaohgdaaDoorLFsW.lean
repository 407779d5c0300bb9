/-
  THE STATEMENT FsWhole, PROVED: all blocks are written by one commit, one put more is refused, and nothing of it done, for every number and all bytes; the arguments read as before. The row lists the table hashes.k, tied to the program's text.
-/
import Derived.Test.YtomngfihaohgdaaDoorFsJ
import Derived.Test.YtomngfihaohgdaaDoorLaid3
import Derived.Test.YtomngfihaohgdaaDoorCards
import Derived.Test.YtomngfihaohgdaaDoorTie
import Derived.SevenTiedAt
namespace Go.Proofs.YtomngfihaohgdaaDoor
open Go.RowKit

namespace LiftFsWhole
open Go.ChangeShapes Go.WideShapes Go.ChangeAt
set_option maxRecDepth 100000 in
theorem lifted (os : Os) (started : os.Started) (H : Type) (enc : TypeId × Value → H) :
    ReturnsInHanded {} Tryd.checked os 5 .any (fun w args => (Rows.fsWholeSpec.pre enc Tryd.prog Tryd.f5 [] false w args ∧ laidMetH Tryd.prog laidK w) ∧ sizedMet enc Tryd.prog Tryd.f5 (OpenSpec.ofChange Rows.fsWholeSpec) false w args)
      (Rows.fsWholeSpec.post enc Tryd.prog Tryd.f5 false true false false) := by
  refine returnsInHanded_of_change_and (C := Tryd.checked) (X := fun w _ => laidMetH Tryd.prog laidK w) (fun _ _ _ hh h => h.of_heap hh) ownKnob_none started (by kernel_rfl) Tryd.func5
    (ChangeSpec.witness_shaped (enc := enc) (C := Tryd.checked) (os := os) (X := fun w _ => laidMetH Tryd.prog laidK w) false (World.doorLaid Tryd.prog 400 os) #[.int .i64 0, .slice none 0 0] 8 rfl (World.shaped_of_RefB (by kernel_rfl) (by kernel_rfl)) (by kernel_rfl) (by kernel_rfl) (by kernel_rfl) (door_met os _)) ?_
  intro W base args ds gs before hval0 hW _ hsz hL _
  have hval : ∀ (j : Nat) t v, Tryd.f5.params[j]? = some t → args[j]? = some v → Value.okWide Tryd.prog W .any base t v := hval0
  have hW' := hW
  obtain ⟨p, q, hA0, hV, rfl, hfz, hnd⟩ := hW
  have hA : DataW.TrodAll enc Tryd.prog W 0 (fun _ => true) true Tryd.f5.params.toList args.toList ds p := hA0
  rw [Tryd.params5] at hA hval hsz
  obtain ⟨rfl, rfl⟩ := trodVars_none hV
  obtain ⟨args⟩ := args
  obtain ⟨v0, vs0, d0, ds0, p0, q0, hv0, rfl, _, h0, hA0⟩ := trodAll_cons hA
  obtain ⟨v1, vs1, d1, ds1, p1, q1, hv1, rfl, _, h1, hA1⟩ := trodAll_cons hA0
  obtain ⟨rfl, rfl, _⟩ := trodAll_nil hA1
  subst hv1
  simp only at hv0
  subst hv0
  obtain ⟨n0, rfl, rfl, _, hw0⟩ := open_int Tryd.underlying3 (hval 0 _ v0 rfl rfl) h0
  obtain ⟨A1, m1, c1, l1, rfl, hm1, hr1⟩ := open_rdB (hval 1 _ v1 rfl rfl) h1 (fun q hq => by simpa using List.all_eq_true.1 hsz q (DataW.weights_mem_each (j := 1) (t := 40) rfl rfl q hq))
  refine (fsWhole_walk n0 A1 m1 c1 l1 W (kat_of_laid hL) (i64_wf hw0).1 (i64_wf hw0).2 hm1 hr1).mono fun e W' ⟨he, hb⟩ => ?_
  subst he
  refine ⟨_, rfl, law_post rfl rfl ?_ hW' rfl hb⟩
  rw [Tryd.params5]
  decide +kernel
theorem over : Rows.fsWholeRow.holds Tryd.pinned (OpenSpec.ofChange Rows.fsWholeSpec) :=
  OpenClaim.holds_of_wide 5 Tryd.f5 rfl rfl rfl rfl rfl rfl rfl ⟨rfl, rfl, rfl, rfl, rfl⟩ rfl rfl rfl rfl rfl (by kernel_rfl) Tryd.func5 (by kernel_rfl)
    (of_decide_eq_true (by kernel_rfl)) (by unfold Func.isWrapper; first | (rw [if_pos (by decide +kernel)]; kernel_rfl) | (rw [if_neg (by decide +kernel)]; exact ⟨rfl, rfl⟩))
    (fun os started H enc _ => lifted os started H enc)
theorem card : Rows.FsWholeCardSaid :=
  Claim7.holds_tied_plain_at .later [] [.data] true (true, "8fda44b150c9fa05d21616ac898619d13b11b6dddadd42576c02bf4c3c54c203") false
    over (fun _ h => by cases h) (by kernel_rfl) (fun _ h => by cases h) fsWhole_row_tie rfl ⟨rfl, rfl⟩ (by kernel_rfl) rfl
    (fun f fn hf hfn => by
      obtain rfl : f = 5 := Option.some.inj ((show Tryd.prog.funcNamed "bailey/baileylaw14.FsWhole" = some 5 by kernel_rfl).symm.trans hf) |>.symm
      obtain rfl : fn = Tryd.f5 := (Option.some.inj (Tryd.func5.symm.trans hfn)).symm
      exact ⟨by kernel_rfl, fun j t ht => by
        rw [Tryd.params5] at ht
        have hm : t ∈ [3, 40] := by simpa using Array.mem_of_getElem? ht
        have hall : ([3, 40].all fun u => !Tryd.prog.wantsStandIn u) = true := by kernel_rfl
        exact (show Tryd.prog.wantsStandIn t = false by simpa using List.all_eq_true.1 hall t hm)⟩)
    (by kernel_rfl)
end LiftFsWhole
/-- The statement. -/
theorem fsWhole_holds : Rows.FsWholeCardSaid := LiftFsWhole.card
#print axioms fsWhole_holds
end Go.Proofs.YtomngfihaohgdaaDoor
