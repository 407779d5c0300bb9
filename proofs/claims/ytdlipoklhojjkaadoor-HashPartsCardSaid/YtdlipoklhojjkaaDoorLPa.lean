/-
  THE STATEMENT HashParts, PROVED: a hash does not hang on the parts in which bytes are written, Sum leaves the state, a copy goes its own way, for every kind, parts and bytes that the law takes; the arguments read as before. The row lists the table hashes.k, tied to the program's text.
-/
import Derived.Test.YtdlipoklhojjkaaDoorHPa
import Derived.Test.YtdlipoklhojjkaaDoorLaid3
import Derived.Test.YtdlipoklhojjkaaDoorCards
import Derived.Test.YtdlipoklhojjkaaDoorTie
import Derived.SevenTiedAt
namespace Go.Proofs.YtdlipoklhojjkaaDoor
open Go.RowKit
theorem hashParts_walk (kind : Int) (A : Option Addr) (m c : Nat) (ls : List (List UInt8)) (A2 : Option Addr) (m2 c2 : Nat) (l2 : List UInt8) (w : World) (hp : RowsAt w A m ls) (hm : m ≤ maxLen) (hr2 : Rd w A2 m2 c2 l2) (hK : KAt w) :
    Calls Tryd.prog 4 #[.int .i64 kind, .slice A m c, .slice A2 m2 c2] w (LawRes w) := by
  by_cases hk : 1 ≤ kind ∧ kind ≤ 5
  · exact hashParts_in kind hk A m c ls A2 m2 c2 l2 w hp hm hr2 hK
  · exact hashParts_out kind hk _ _ w hK

namespace LiftHashParts
open Go.ChangeShapes Go.WideShapes Go.ChangeAt
set_option maxRecDepth 100000 in
theorem lifted (os : Os) (started : os.Started) (H : Type) (enc : TypeId × Value → H) :
    ReturnsInHanded {} Tryd.checked os 4 .any (fun w args => (Rows.hashPartsSpec.pre enc Tryd.prog Tryd.f4 [] false w args ∧ laidMetH Tryd.prog laidK w) ∧ sizedMet enc Tryd.prog Tryd.f4 (OpenSpec.ofChange Rows.hashPartsSpec) false w args)
      (Rows.hashPartsSpec.post enc Tryd.prog Tryd.f4 false true false false) := by
  refine returnsInHanded_of_change_and (C := Tryd.checked) (X := fun w _ => laidMetH Tryd.prog laidK w) (fun _ _ _ hh h => h.of_heap hh) ownKnob_none started (by kernel_rfl) Tryd.func4
    (ChangeSpec.witness_shaped (enc := enc) (C := Tryd.checked) (os := os) (X := fun w _ => laidMetH Tryd.prog laidK w) false (World.doorLaid Tryd.prog 400 os) #[.int .i64 0, .slice none 0 0, .slice none 0 0] 8 rfl (World.shaped_of_RefB (by kernel_rfl) (by kernel_rfl)) (by kernel_rfl) (by kernel_rfl) (by kernel_rfl) (door_met os _)) ?_
  intro W base args ds gs before hval0 hW _ _ hL _
  have hval : ∀ (j : Nat) t v, Tryd.f4.params[j]? = some t → args[j]? = some v → Value.okWide Tryd.prog W .any base t v := hval0
  have hW' := hW
  obtain ⟨p, q, hA0, hV, rfl, hfz, hnd⟩ := hW
  have hA : DataW.TrodAll enc Tryd.prog W 0 (fun _ => true) true Tryd.f4.params.toList args.toList ds p := hA0
  rw [Tryd.params4] at hA hval
  obtain ⟨rfl, rfl⟩ := trodVars_none hV
  obtain ⟨args⟩ := args
  obtain ⟨v0, vs0, d0, ds0, p0, q0, hv0, rfl, _, h0, hA0⟩ := trodAll_cons hA
  obtain ⟨v1, vs1, d1, ds1, p1, q1, hv1, rfl, _, h1, hA1⟩ := trodAll_cons hA0
  obtain ⟨v2, vs2, d2, ds2, p2, q2, hv2, rfl, _, h2, hA2⟩ := trodAll_cons hA1
  obtain ⟨rfl, rfl, _⟩ := trodAll_nil hA2
  subst hv2
  subst hv1
  simp only at hv0
  subst hv0
  obtain ⟨n0, rfl, rfl, _, hw0⟩ := open_int Tryd.underlying3 (hval 0 _ v0 rfl rfl) h0
  obtain ⟨A1, m1, c1, l1, rfl, hm1, hr1⟩ := open_rows (hval 1 _ v1 rfl rfl) h1
  obtain ⟨A2, m2, c2, l2, rfl, hr2⟩ := open_rd (hval 2 _ v2 rfl rfl) h2
  refine (hashParts_walk n0 A1 m1 c1 l1 A2 m2 c2 l2 W hr1 hm1 hr2 (kat_of_laid hL)).mono fun e W' ⟨he, hb⟩ => ?_
  subst he
  refine ⟨_, rfl, law_post rfl rfl ?_ hW' rfl hb⟩
  rw [Tryd.params4]
  decide +kernel
theorem over : Rows.hashPartsRow.holds Tryd.pinned (OpenSpec.ofChange Rows.hashPartsSpec) :=
  OpenClaim.holds_of_wide 4 Tryd.f4 rfl rfl rfl rfl rfl rfl rfl ⟨rfl, rfl, rfl, rfl, rfl⟩ rfl rfl rfl rfl rfl (by kernel_rfl) Tryd.func4 (by kernel_rfl)
    (of_decide_eq_true (by kernel_rfl)) (by unfold Func.isWrapper; first | (rw [if_pos (by decide +kernel)]; kernel_rfl) | (rw [if_neg (by decide +kernel)]; exact ⟨rfl, rfl⟩))
    (fun os started H enc _ => lifted os started H enc)
theorem card : Rows.HashPartsCardSaid :=
  Claim7.holds_tied_plain_at .later [] [.data] true (true, "5125ff8c2ded4f0237646e5739299c71f5bcde60b01ce759438a91b174ed50a3") false
    over (fun _ h => by cases h) (by kernel_rfl) (fun _ h => by cases h) hashParts_row_tie rfl ⟨rfl, rfl⟩ (by kernel_rfl) rfl
    (fun f fn hf hfn => by
      obtain rfl : f = 4 := Option.some.inj ((show Tryd.prog.funcNamed "bailey/baileylaw3.HashParts" = some 4 by kernel_rfl).symm.trans hf) |>.symm
      obtain rfl : fn = Tryd.f4 := (Option.some.inj (Tryd.func4.symm.trans hfn)).symm
      exact ⟨by kernel_rfl, fun j t ht => by
        rw [Tryd.params4] at ht
        have hm : t ∈ [3, 29, 22] := by simpa using Array.mem_of_getElem? ht
        have hall : ([3, 29, 22].all fun u => !Tryd.prog.wantsStandIn u) = true := by kernel_rfl
        exact (show Tryd.prog.wantsStandIn t = false by simpa using List.all_eq_true.1 hall t hm)⟩)
    (by kernel_rfl)
end LiftHashParts
/-- The statement. -/
theorem hashParts_holds : Rows.HashPartsCardSaid := LiftHashParts.card
#print axioms hashParts_holds
end Go.Proofs.YtdlipoklhojjkaaDoor
