/-
  Slices that came in, read one by one; a row of no room may lie anywhere.
-/
import Derived.Test.YtgjnmpjimhbfgaaGreatDoorOpenP
import Derived.Test.YtgjnmpjimhbfgaaGreatDoorOpenE
import Derived.Deep.Slices
import Derived.Lib.SmallJoins
namespace Go.Proofs.YtgjnmpjimhbfgaaGreatDoor
set_option maxRecDepth 100000
open Go.RowKit Go.ChangeShapes Go.WideShapes Go.ChangeAt Go.Deep Go.Joins
section
variable {H : Type} {enc : TypeId × Value → H}
theorem addr_of_cellN {W : World} {a : Addr} {v : Value} (h : W.cell? a = some v) (_hv : ∃ k n, v = .int k n ∨ ∃ b, v = .bool b) : a.spot = none ∧ a.block < W.heap.size := by
 obtain ⟨ab, ao, sp⟩ := a
 unfold World.cell? at h
 simp only at h
 split at h
 ·rename_i cs t fr hh
  refine ⟨?_, (Array.getElem?_eq_some_iff.1 hh).1⟩
  cases sp with
  | none => rfl
  | some s => simp at h
 ·cases h
theorem rdE_trodN {W : World} {n : Nat} {v : Value} {y : DataW H × List MemPlace} (h : DataW.trod enc Tryz.prog W 0 (fun _ => true) true n 32 [v] = some y) : ∃ A m c l, v = .slice A m c ∧ RdE W A m c l := by
 rcases open_ints Tryz.underlying32 Tryz.underlying5 (show Tryz.prog.cellsOf 5 = 1 by kernel_rfl) h with ⟨hcs, hx⟩ | ⟨a, len', cap', zs, hcs, _, hl, hm, hz, hx, hcell, hwz⟩
 ·simp at hcs
  exact ⟨_, _, _, [], hcs, .inl (Rd.nil W)⟩
 ·simp at hcs
  refine ⟨_, _, _, (zs.take len').map fun n => UInt8.ofNat n.toNat, hcs, ?_⟩
  simp only [if_true] at hz
  rcases Nat.eq_zero_or_pos cap' with h0 | h0
  ·exact .inr ⟨by omega, h0, by rw [show len' = 0 by omega]; rfl⟩
  ·have hc0 := hcell 0 (by omega)
   obtain ⟨hsp, hlt⟩ := addr_of_cellN hc0 ⟨_, _, .inl rfl⟩
   obtain ⟨ab, ao, sp⟩ := a
   have hlt' : ab < W.heap.size := by
    have : (Addr.add ⟨ab, ao, sp⟩ 0).block = ab := by unfold Addr.add; split <;> rfl
    rwa [this] at hlt
   have hsp' : sp = none := by
    rw [show Addr.add ⟨ab, ao, sp⟩ 0 = ⟨ab, ao, sp⟩ from rfl] at hsp
    exact hsp
   subst hsp'
   refine .inl ⟨by simp; omega, hl, hm, .inr ⟨ab, ao, rfl, hlt', fun k x hk => ?_⟩⟩
   have hk' : k < len' := by
    have := (List.getElem?_eq_some_iff.1 hk).1
    simp at this; omega
   have hc := hcell k (by omega)
   rw [Addr.add_lit] at hc
   rw [hc]
   have e : zs[k]? = some (zs.getD k 0) := by simp [List.getD, List.getElem?_eq_getElem (show k < zs.length by omega)]
   rw [List.getElem?_map, List.getElem?_take, if_pos hk', e] at hk
   simp only [Option.map_some, Option.some.injEq] at hk
   have hw := hwz (zs.getD k 0) (List.mem_of_getElem? e)
   have hr : 0 ≤ zs.getD k 0 ∧ zs.getD k 0 ≤ 255 := by
    simpa [Lit.wf, IntKind.min, IntKind.max, IntKind.bits, IntKind.signed] using hw
   subst hk
   unfold B
   rw [UInt8.toNat_ofNat']
   congr 2
   omega
theorem pick_all {α β : Type} {R : α → β → Prop} : ∀ (l : List α), (∀ x ∈ l, ∃ y, R x y) → ∃ m : List β, l.length = m.length ∧ ∀ (j : Nat) x y, l[j]? = some x → m[j]? = some y → R x y
 | [], _ => ⟨[], rfl, by simp⟩
 | x :: l, h => by
  obtain ⟨y, hy⟩ := h x (by simp)
  obtain ⟨m, hl, hm⟩ := pick_all l (fun z hz => h z (by simp [hz]))
  refine ⟨y :: m, by simp [hl], fun j a b ha hb => ?_⟩
  cases j with
  | zero => simp at ha hb; subst ha; subst hb; exact hy
  | succ j => simp at ha hb; exact hm j a b ha hb
end
end Go.Proofs.YtgjnmpjimhbfgaaGreatDoor
