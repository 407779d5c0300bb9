/-
  The table hashes.k, as the rows list it; a world that holds it.
-/
import Derived.Test.YtgjnmpjimhbfgaaGreatDoorLift
import Derived.Test.YtgjnmpjimhbfgaaGreatDoorZzP512
namespace Go.Proofs.YtgjnmpjimhbfgaaGreatDoor
set_option maxRecDepth 100000
open Go.RowKit Go.ChangeShapes Go.WideShapes Go.ChangeAt
theorem gK : Tryz.prog.globalNamed "bailey/hashes.k" = some 1 := by kernel_rfl
theorem tK : (Tryz.prog.globals[1]?).map (·.type) = some 201 := by kernel_rfl
def laidK : List (String × DataW Unit) := [("bailey/hashes.k", Rows.laid_bailey_hashes_k)]
theorem laid_nums : (Rows.laid_bailey_hashes_k : DataW Unit) = .agg (kTab.map fun x => .lit (.int .u64 (x.toNat : Int))) := by kernel_rfl
theorem kat_of_laid {W : World} (h : laidMetH Tryz.prog laidK W) : KAt W := by
 rw [MakeChecks.laidMetH_plain _ _ _ (by kernel_rfl)] at h
 obtain ⟨ps, ⟨g0, t0, cs0, f0, p0, q0, hg0, ht0, hv0, hd0, _⟩, _⟩ := h
 obtain rfl := Option.some.inj (gK.symm.trans hg0)
 obtain rfl := Option.some.inj (tK.symm.trans ht0)
 obtain ⟨xs, m1, rfl, hx1, hlen, hn, hel⟩ := DataW.trod_array Tryz.underlying201 hd0
 have c1 : Tryz.prog.cellsOf 131 = 1 := by kernel_rfl
 rw [c1] at hel
 simp only [Prod.mk.injEq] at hx1
 rw [laid_nums] at hx1
 have hcell := fun j => World.var?_cell hg0 hv0 j
 have key : ∀ i x, kTab[i]? = some x → W.cell? ⟨1, i, none⟩ = some (U64 x) := by
  intro i x hx
  have hi : i < 80 := by rw [← kTab_len]; exact (List.getElem?_eq_some_iff.1 hx).1
  have h1 := hel i hi
  obtain ⟨y, hy⟩ : ∃ y, xs[i]? = some y := ⟨_, List.getElem?_eq_getElem (by omega)⟩
  rw [hy] at h1
  obtain ⟨n, e1, e2, _⟩ := DataW.trod_int Tryz.underlying131 h1
  have hxx : (xs.map (·.1))[i]? = some y.1 := by simp [hy]
  have hn2 : n = (x.toNat : Int) := by
   have e3 := hx1.1
   injection e3 with e3
   rw [← e3, List.getElem?_map, hx] at hxx
   simp only [Option.map_some, Option.some.injEq] at hxx
   rw [e2] at hxx
   simpa using hxx.symm
  subst hn2
  rw [hcell i]
  have e4 := congrArg (fun l => l[0]?) e1
  simp only [List.getElem?_take, List.getElem?_drop] at e4
  simpa [U64] using e4
 refine ⟨?_, key⟩
 have := key 0 _ rfl
 unfold World.cell? at this
 rcases Nat.lt_or_ge 1 W.heap.size with h | h
 ·exact h
 ·simp [Array.getElem?_eq_none h] at this
theorem door_met (os : Os) (args : Array Value) : laidMetH Tryz.prog laidK ((World.doorLaid Tryz.prog 400 os).forCall (fun _ _ => 0) ⟨#[], args, []⟩).memory :=
 laidMetH_of_parts3 (fuel := 8) (laidMet_of_run' 8 (by kernel_rfl) (by kernel_rfl)) (by kernel_rfl) (by kernel_rfl)
end Go.Proofs.YtgjnmpjimhbfgaaGreatDoor
