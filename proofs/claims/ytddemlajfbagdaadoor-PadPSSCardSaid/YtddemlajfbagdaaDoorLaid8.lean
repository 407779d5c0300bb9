/-
  The tables that the rows of pad list; a world that holds them.
-/
import Derived.Test.YtddemlajfbagdaaDoorZzPd3
import Derived.Test.YtddemlajfbagdaaDoorP256
import Derived.Lay
namespace Go.Proofs.YtddemlajfbagdaaDoor
set_option maxRecDepth 100000
open Go.RowKit Go.ChangeShapes Go.WideShapes Go.ChangeAt

theorem gK8 : Tryd.prog.globalNamed "bailey/hashes.k" = some 1 := by kernel_rfl
theorem tK8 : (Tryd.prog.globals[1]?).map (·.type) = some 117 := by kernel_rfl
def laidK8 : List (String × DataW Unit) := [("unicode/utf8.acceptRanges", Rows.laid_unicode_utf8_acceptRanges), ("bailey/hashes.k", Rows.laid_bailey_hashes_k), ("unicode/utf8.first", Rows.laid_unicode_utf8_first)]
theorem laid_nums8 : (Rows.laid_bailey_hashes_k : DataW Unit) = .agg (kTab.map fun x => .lit (.int .u64 (x.toNat : Int))) := by kernel_rfl
theorem kat_of_laid8 {W : World} (h : laidMetH Tryd.prog laidK8 W) : KAt W := by
  rw [MakeChecks.laidMetH_plain _ _ _ (by kernel_rfl)] at h
  obtain ⟨ps, ⟨_, _, _, _, _, _, _, _, _, _, ⟨g0, t0, cs0, f0, p0, q0, hg0, ht0, hv0, hd0, _⟩, _⟩, _⟩ := h
  obtain rfl := Option.some.inj (gK8.symm.trans hg0)
  obtain rfl := Option.some.inj (tK8.symm.trans ht0)
  obtain ⟨xs, m1, rfl, hx1, hlen, hn, hel⟩ := DataW.trod_array Tryd.underlying117 hd0
  have c1 : Tryd.prog.cellsOf 78 = 1 := by kernel_rfl
  rw [c1] at hel
  simp only [Prod.mk.injEq] at hx1
  rw [laid_nums8] at hx1
  have hcell := fun j => World.var?_cell hg0 hv0 j
  have key : ∀ i x, kTab[i]? = some x → W.cell? ⟨1, i, none⟩ = some (U64 x) := by
    intro i x hx
    have hi : i < 80 := by rw [← kTab_len]; exact (List.getElem?_eq_some_iff.1 hx).1
    have h1 := hel i hi
    obtain ⟨y, hy⟩ : ∃ y, xs[i]? = some y := ⟨_, List.getElem?_eq_getElem (by omega)⟩
    rw [hy] at h1
    obtain ⟨n, e1, e2, _⟩ := DataW.trod_int Tryd.underlying78 h1
    have hxx : (xs.map (·.1))[i]? = some y.1 := by simp [hy]
    have hn2 : n = (x.toNat : Int) := by
      have e3 := hx1.1
      injection e3 with e3
      rw [← e3, List.getElem?_map, hx] at hxx
      simp only [Option.map_some, Option.some.injEq] at hxx
      rw [e2] at hxx
      simpa using hxx.symm
    subst hn2
    rw [hcell i]
    have e4 := congrArg (fun l => l[0]?) e1
    simp only [List.getElem?_take, List.getElem?_drop] at e4
    simpa [U64] using e4
  refine ⟨?_, key⟩
  have := key 0 _ rfl
  unfold World.cell? at this
  rcases Nat.lt_or_ge 1 W.heap.size with h | h
  · exact h
  · simp [Array.getElem?_eq_none h] at this
theorem door_met8 (os : Os) (args : Array Value) : laidMetH Tryd.prog laidK8 ((World.laidAll Tryd.prog os laidK8).forCall (fun _ _ => 0) ⟨#[], args, []⟩).memory := by
  rw [MakeChecks.laidMetH_plain _ _ _ (by kernel_rfl)]
  exact laidMet_laidAll _ (by kernel_rfl) (by kernel_rfl)
end Go.Proofs.YtddemlajfbagdaaDoor
