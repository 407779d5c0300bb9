/-
  THE STATEMENT FsTwice, PROVED: a device that dies while a volume is mounted that died before, and is crashed again, gives the same volume in the end, for every number, every list of commits, every last commit, both fuses and every list of kept sectors; the arguments read as before. The row lists the table hashes.k, tied to the program's text.
-/
import Derived.Test.YtomngfihaohgdaaDoorFsG
import Derived.Test.YtomngfihaohgdaaDoorLaid3
import Derived.Test.YtomngfihaohgdaaDoorCards
import Derived.Test.YtomngfihaohgdaaDoorTie
import Derived.SevenTiedAt
namespace Go.Proofs.YtomngfihaohgdaaDoor
open Go.RowKit

namespace LiftFsTwice
open Go.ChangeShapes Go.WideShapes Go.ChangeAt
set_option maxRecDepth 100000 in
theorem lifted (os : Os) (started : os.Started) (H : Type) (enc : TypeId × Value → H) :
    ReturnsInHanded {} Tryd.checked os 7 .any (fun w args => (Rows.fsTwiceSpec.pre enc Tryd.prog Tryd.f7 [] false w args ∧ laidMetH Tryd.prog laidK w) ∧ sizedMet enc Tryd.prog Tryd.f7 (OpenSpec.ofChange Rows.fsTwiceSpec) false w args)
      (Rows.fsTwiceSpec.post enc Tryd.prog Tryd.f7 false true false false) := by
  refine returnsInHanded_of_change_and (C := Tryd.checked) (X := fun w _ => laidMetH Tryd.prog laidK w) (fun _ _ _ hh h => h.of_heap hh) ownKnob_none started (by kernel_rfl) Tryd.func7
    (ChangeSpec.witness_shaped (enc := enc) (C := Tryd.checked) (os := os) (X := fun w _ => laidMetH Tryd.prog laidK w) false (World.doorLaid Tryd.prog 400 os) #[.int .i64 0, .slice none 0 0, .slice none 0 0, .int .i64 0, .int .i64 0, .slice none 0 0] 8 rfl (World.shaped_of_RefB (by kernel_rfl) (by kernel_rfl)) (by kernel_rfl) (by kernel_rfl) (by kernel_rfl) (door_met os _)) ?_
  intro W base args ds gs before hval0 hW _ hsz hL _
  have hval : ∀ (j : Nat) t v, Tryd.f7.params[j]? = some t → args[j]? = some v → Value.okWide Tryd.prog W .any base t v := hval0
  have hW' := hW
  obtain ⟨p, q, hA0, hV, rfl, hfz, hnd⟩ := hW
  have hA : DataW.TrodAll enc Tryd.prog W 0 (fun _ => true) true Tryd.f7.params.toList args.toList ds p := hA0
  rw [Tryd.params7] at hA hval hsz
  obtain ⟨rfl, rfl⟩ := trodVars_none hV
  obtain ⟨args⟩ := args
  obtain ⟨v0, vs0, d0, ds0, p0, q0, hv0, rfl, _, h0, hA0⟩ := trodAll_cons hA
  obtain ⟨v1, vs1, d1, ds1, p1, q1, hv1, rfl, _, h1, hA1⟩ := trodAll_cons hA0
  obtain ⟨v2, vs2, d2, ds2, p2, q2, hv2, rfl, _, h2, hA2⟩ := trodAll_cons hA1
  obtain ⟨v3, vs3, d3, ds3, p3, q3, hv3, rfl, _, h3, hA3⟩ := trodAll_cons hA2
  obtain ⟨v4, vs4, d4, ds4, p4, q4, hv4, rfl, _, h4, hA4⟩ := trodAll_cons hA3
  obtain ⟨v5, vs5, d5, ds5, p5, q5, hv5, rfl, _, h5, hA5⟩ := trodAll_cons hA4
  obtain ⟨rfl, rfl, _⟩ := trodAll_nil hA5
  subst hv5
  subst hv4
  subst hv3
  subst hv2
  subst hv1
  simp only at hv0
  subst hv0
  obtain ⟨n0, rfl, rfl, _, hw0⟩ := open_int Tryd.underlying3 (hval 0 _ v0 rfl rfl) h0
  obtain ⟨A1, m1, c1, l1, rfl, hm1, hr1⟩ := open_putss (hval 1 _ v1 rfl rfl) h1 (fun q hq => by simpa using List.all_eq_true.1 hsz q (DataW.weights_mem_each (j := 1) (t := 22) rfl rfl q hq))
  obtain ⟨A2, m2, c2, l2, rfl, hm2, hr2⟩ := open_putsB (hval 2 _ v2 rfl rfl) h2 (fun q hq => by simpa using List.all_eq_true.1 hsz q (DataW.weights_mem_each (j := 2) (t := 50) rfl rfl q hq))
  obtain ⟨n3, rfl, rfl, _, hw3⟩ := open_int Tryd.underlying3 (hval 3 _ v3 rfl rfl) h3
  obtain ⟨n4, rfl, rfl, _, hw4⟩ := open_int Tryd.underlying3 (hval 4 _ v4 rfl rfl) h4
  obtain ⟨A5, m5, c5, l5, rfl, hm5, hr5⟩ := open_bools (hval 5 _ v5 rfl rfl) h5
  refine (fsTwice_walk n0 A1 m1 c1 l1 A2 m2 c2 l2 n3 n4 A5 m5 c5 l5 W (kat_of_laid hL) (i64_wf hw0).1 (i64_wf hw0).2 hm1 hr1 hm2 hr2 hm5 hr5).mono fun e W' ⟨he, hb⟩ => ?_
  subst he
  refine ⟨_, rfl, law_post rfl rfl ?_ hW' rfl hb⟩
  rw [Tryd.params7]
  decide +kernel
theorem over : Rows.fsTwiceRow.holds Tryd.pinned (OpenSpec.ofChange Rows.fsTwiceSpec) :=
  OpenClaim.holds_of_wide 7 Tryd.f7 rfl rfl rfl rfl rfl rfl rfl ⟨rfl, rfl, rfl, rfl, rfl⟩ rfl rfl rfl rfl rfl (by kernel_rfl) Tryd.func7 (by kernel_rfl)
    (of_decide_eq_true (by kernel_rfl)) (by unfold Func.isWrapper; first | (rw [if_pos (by decide +kernel)]; kernel_rfl) | (rw [if_neg (by decide +kernel)]; exact ⟨rfl, rfl⟩))
    (fun os started H enc _ => lifted os started H enc)
theorem card : Rows.FsTwiceCardSaid :=
  Claim7.holds_tied_plain_at .later [] [.data] true (true, "8fda44b150c9fa05d21616ac898619d13b11b6dddadd42576c02bf4c3c54c203") false
    over (fun _ h => by cases h) (by kernel_rfl) (fun _ h => by cases h) fsTwice_row_tie rfl ⟨rfl, rfl⟩ (by kernel_rfl) rfl
    (fun f fn hf hfn => by
      obtain rfl : f = 7 := Option.some.inj ((show Tryd.prog.funcNamed "bailey/baileylaw14.FsTwice" = some 7 by kernel_rfl).symm.trans hf) |>.symm
      obtain rfl : fn = Tryd.f7 := (Option.some.inj (Tryd.func7.symm.trans hfn)).symm
      exact ⟨by kernel_rfl, fun j t ht => by
        rw [Tryd.params7] at ht
        have hm : t ∈ [3, 22, 50, 3, 3, 51] := by simpa using Array.mem_of_getElem? ht
        have hall : ([3, 22, 50, 3, 3, 51].all fun u => !Tryd.prog.wantsStandIn u) = true := by kernel_rfl
        exact (show Tryd.prog.wantsStandIn t = false by simpa using List.all_eq_true.1 hall t hm)⟩)
    (by kernel_rfl)
end LiftFsTwice
/-- The statement. -/
theorem fsTwice_holds : Rows.FsTwiceCardSaid := LiftFsTwice.card
#print axioms fsTwice_holds
end Go.Proofs.YtomngfihaohgdaaDoor
