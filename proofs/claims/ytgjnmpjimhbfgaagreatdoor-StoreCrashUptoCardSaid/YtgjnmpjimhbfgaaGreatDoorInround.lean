/-
  A region that draws its order, in a round of a range over a function: what is shown of it plainly holds in the round. Over any program.
-/
import Derived.Test.YtgjnmpjimhbfgaaGreatDoorZzRangeH
import Derived.Deep.RegionHeld3
import Derived.RegionIn
namespace Go.Proofs.YtgjnmpjimhbfgaaGreatDoor
set_option maxRecDepth 100000
open Go.RowKit
section
variable {P : Program} {ops : Array Oper} {Q : Exit → Act → World → Prop} {n l : Nat}
theorem oper_round {o : Oper} {a : Act} {w : World} {K : Act → World → Prop} (hd : ∀ c, o.op ≠ .defer c) (h : o.wp P a w K Q) : o.wpIn (Fence.wide.inRound l) n P a w K Q := by
 refine ⟨fun _ _ => trivial, ?_⟩
 rw [Oper.semAt_eq _ _ _ hd]
 unfold Oper.wp at h
 generalize (execOp a.eval o).run P w = r at *
 cases r with
 | ok x w' =>
  cases x with
  | value v => exact h
  | skip => exact h
  | defer d => exact h
  | enter f args => exact ⟨fun hs => by simp [Fence.wide, Fence.inRound] at hs, callsIn_wide.2 h⟩
  | row r args => exact ⟨fun hs => by simp [Fence.wide, Fence.inRound] at hs, fun c cs _ => let ⟨v, w'', hr, s⟩ := h c cs; ⟨v, w'', hr, stepsIn_wide.2 s⟩⟩
  | _ => exact h.elim
 | halt x w' => cases x <;> first | exact h | exact h.elim
theorem ops_round (hd : ∀ (j : Nat) (o : Oper) c, ops[j]? = some o → o.op ≠ .defer c) (hL : ¬ LetsOut Q) :
  ∀ (is : List Nat) (a : Act) (w : World), wpOps P ops Q is a w → wpOpsIn (Fence.wide.inRound l) n P ops Q is a w
 | [], _, _, h => h
 | i :: is, a, w, h => by
  unfold wpOps at h
  unfold wpOpsIn
  cases ho : ops[i]? with
  | none => rw [ho] at h; exact ops_round hd hL is a w h
  | some o =>
   rw [ho] at h
   dsimp only at h ⊢
   split
   ·rename_i hw
    rw [if_pos hw] at h
    rcases h with h | h
    ·exact Oper.wpIn_mono (fun a w h => ops_round hd hL is a w h) (oper_round (fun c => hd i o c ho) h)
    ·exact absurd h.2 hL
   ·rename_i hw
    rw [if_neg hw] at h
    exact ⟨fun _ _ => trivial, ops_round hd hL is _ w h⟩
def noDefer (ops : Array Oper) : Bool := ops.all fun o => match o.op with | .defer _ => false | _ => true
theorem noDefer_spec (h : noDefer ops = true) (j : Nat) (o : Oper) (c : Call) (hj : ops[j]? = some o) : o.op ≠ .defer c := by
 intro he
 unfold noDefer at h
 rw [Array.all_eq_true] at h
 obtain ⟨hlt, rfl⟩ := Array.getElem?_eq_some_iff.1 hj
 have := h j hlt
 rw [he] at this
 simp at this
theorem region_round {id : Nat} {a : Act} {w : World} (hd : noDefer ops = true) (hL : ¬ LetsOut Q) (hm : P.follows .mixedOrders = true) {S : World → Prop} (hS : S w.drew)
  (h : S w.drew → wpAnyH P .any ops Q S ops.size (Array.replicate ops.size false) a w.drew) : (Code.region id ops true).wpIn (Fence.wide.inRound l) n P Q a w :=
 wpIn_region_draw fun t => by
  simp only [Region.schedule, hm, Bool.true_or, if_true]
  exact ops_round (noDefer_spec hd) hL _ _ _ (wpAny_sound ops.size t _ a _ (wpAny_of_held _ _ _ _ (h hS)))
end
end Go.Proofs.YtgjnmpjimhbfgaaGreatDoor
