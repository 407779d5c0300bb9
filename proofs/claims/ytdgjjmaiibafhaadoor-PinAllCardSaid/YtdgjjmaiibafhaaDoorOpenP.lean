/-
  A slice of slices of bytes that came in: rows of bytes; a row of no room may lie anywhere.
-/
import Derived.Test.YtdgjjmaiibafhaaDoorLift
import Derived.Deep.Matrix
import Derived.Test.YtdgjjmaiibafhaaDoorReg
namespace Go.Proofs.YtdgjjmaiibafhaaDoor
set_option maxRecDepth 100000
open Go.RowKit Go.ChangeShapes Go.WideShapes Go.ChangeAt

/-- One row: read, or of no room. -/
def RdE (w : World) (A : Option Addr) (m c : Nat) (l : List UInt8) : Prop := Rd w A m c l ∨ (m = 0 ∧ c = 0 ∧ l = [])
def RowsAt (w : World) (A : Option Addr) (m : Nat) (ls : List (List UInt8)) : Prop :=
  ls.length = m ∧ (m = 0 ∨ ∃ b off, A = some ⟨b, off, none⟩ ∧ b < w.heap.size ∧ ∀ (j : Nat) (l : List UInt8), ls[j]? = some l → ∃ Aj mj cj, w.cell? ⟨b, off + j, none⟩ = some (.slice Aj mj cj) ∧ RdE w Aj mj cj l)
theorem RdE.below {w w' : World} {A : Option Addr} {m c : Nat} {l : List UInt8} (h : RdE w A m c l) (hb : Old w w') : RdE w' A m c l := h.imp (fun h => h.below hb) id
section
variable {H : Type} {enc : TypeId × Value → H}
theorem open_rows {W : World} {base : Nat} {v : Value} {d : DataW H} {p : List MemPlace} (hval : Value.okWide Tryd.prog W .any base 59 v) (h : DataW.Trod enc Tryd.prog W 0 (fun _ => true) true 59 v d p) :
    ∃ A m c ls, v = .slice A m c ∧ m ≤ maxLen ∧ RowsAt W A m ls := by
  have hval' := hval
  obtain ⟨a1, len, cap, rfl⟩ := okWide_slice Tryd.underlying59 hval
  obtain ⟨fuel, hf⟩ := h
  rcases Deep.open_int_rows Tryd.underlying59 Tryd.underlying22 Tryd.underlying5 (show Tryd.prog.cellsOf 22 = 1 by kernel_rfl) (show Tryd.prog.cellsOf 5 = 1 by kernel_rfl) hf with ⟨hcs, hx⟩ | ⟨a, len', cap', A, L, C, Z, hcs, _, hl, hm, hx, hr⟩
  · simp [Value.cells] at hcs
    obtain ⟨rfl, rfl, rfl⟩ := hcs
    exact ⟨_, _, _, [], rfl, Nat.zero_le _, rfl, .inl rfl⟩
  · simp [Value.cells] at hcs
    obtain ⟨rfl, rfl, rfl⟩ := hcs
    unfold Value.okWide Cell.okWide Cell.ok at hval'
    rw [Tryd.underlying59] at hval'
    obtain ⟨_, _, _, hspot, row, cells, hsh, _⟩ := hval'
    have hlt : a.block < W.heap.size := by
      unfold World.shape? at hsh
      rcases Nat.lt_or_ge a.block W.heap.size with h | h
      · exact h
      · rw [Array.getElem?_eq_none h] at hsh; cases hsh
    obtain ⟨ab, ao, spot⟩ := a
    simp only at hspot hlt
    subst hspot
    refine ⟨_, len, cap, (List.range len).map fun r => ((Z r).take (L r)).map fun n => UInt8.ofNat n.toNat, rfl, by omega, by simp, .inr ⟨ab, ao, rfl, hlt, fun j l hj => ?_⟩⟩
    have hj' : j < len := by
      have := (List.getElem?_eq_some_iff.1 hj).1
      simpa using this
    rw [List.getElem?_map, List.getElem?_range hj'] at hj
    simp only [Option.map_some, Option.some.injEq] at hj
    subst hj
    obtain ⟨hc, h1, h2, h3, h4, h5, h6⟩ := hr j (by omega)
    rw [Addr.add_lit] at hc
    refine ⟨_, _, _, hc, ?_⟩
    rcases Nat.eq_zero_or_pos (C j) with hz | hz
    · exact .inr ⟨by omega, hz, by rw [show L j = 0 by omega]; rfl⟩
    · refine .inl ?_
      obtain ⟨a', ha'⟩ : ∃ a', A j = some a' := by
        cases hA : A j with
        | none => have := h5 hA; omega
        | some a' => exact ⟨a', rfl⟩
      obtain ⟨_, h7⟩ := h6 a' ha'
      have h80 := h7 0 hz
      rw [show a'.add 0 = a' from rfl] at h80
      obtain ⟨ab2, ao2, sp2⟩ := a'
      have hsp : sp2 = none ∧ ab2 < W.heap.size := by
        unfold World.cell? at h80
        simp only at h80
        split at h80
        · rename_i cs t fr hh
          refine ⟨?_, (Array.getElem?_eq_some_iff.1 hh).1⟩
          cases sp2 with
          | none => rfl
          | some s => simp at h80
        · cases h80
      obtain ⟨rfl, hlt2⟩ := hsp
      rw [ha']
      refine ⟨by simp; omega, h1, h2, .inr ⟨ab2, ao2, rfl, hlt2, fun k x hk => ?_⟩⟩
      have hk' : k < L j := by
        have := (List.getElem?_eq_some_iff.1 hk).1
        simp at this; omega
      have hc := h7 k (by omega)
      rw [Addr.add_lit] at hc
      rw [hc]
      have e : (Z j)[k]? = some ((Z j).getD k 0) := by simp [List.getD, List.getElem?_eq_getElem (show k < (Z j).length by omega)]
      rw [List.getElem?_map, List.getElem?_take, if_pos hk', e] at hk
      simp only [Option.map_some, Option.some.injEq] at hk
      have hw := h4 ((Z j).getD k 0) (List.mem_of_getElem? e)
      have hrr : 0 ≤ (Z j).getD k 0 ∧ (Z j).getD k 0 ≤ 255 := by
        simpa [Lit.wf, IntKind.min, IntKind.max, IntKind.bits, IntKind.signed] using hw
      subst hk
      unfold B
      rw [UInt8.toNat_ofNat']
      congr 2
      omega
end
end Go.Proofs.YtdgjjmaiibafhaaDoor
