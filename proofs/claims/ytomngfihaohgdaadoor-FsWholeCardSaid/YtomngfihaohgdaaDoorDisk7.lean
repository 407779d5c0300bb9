/-
  Contracts of disk.Load and disk.Crash.
-/
import Derived.Test.YtomngfihaohgdaaDoorDisk6
namespace Go.Proofs.YtomngfihaohgdaaDoor
open Go.RowKit

/-- One sector's two byte cells and its mark are stored. -/
theorem DiskAt.both {w : World} {d L i : Nat} {xs : List SecV} {s : Dsk} {x : SecV} {v : Value} {o : Option (List UInt8)} (h : DiskAt w d L xs s) (hx : xs[i]? = some x) (hv : Byt w v o) (ho : ∀ l, o = some l → l.length = 256) :
    DiskAt (((w.setCell ⟨L, i * 3, none⟩ v).setCell ⟨L, i * 3 + 1, none⟩ v).setCell ⟨L, i * 3 + 2, none⟩ (.bool false)) d L (xs.set i (v, v, false)) { s with secs := s.secs.set i ⟨o, o, false⟩ } := by
  have hi : i < xs.length := (List.getElem?_eq_some_iff.1 hx).1
  have ht1 : Turn [L] w (((w.setCell ⟨L, i * 3, none⟩ v).setCell ⟨L, i * 3 + 1, none⟩ v).setCell ⟨L, i * 3 + 2, none⟩ (.bool false)) :=
    (((Turn.refl _ _).setCell (.inl (by simp)) _).setCell (.inl (by simp)) _).setCell (.inl (by simp)) _
  refine h.sec ht1 ?_ (by simp) ⟨by simp [h.2.2.1.1], ?_⟩
  · have hb := ((h.2.1.set_ (i * 3) v).set_ (i * 3 + 1) v).set_ (i * 3 + 2) (.bool false)
    rw [List.setIfInBounds_toArray, List.setIfInBounds_toArray, List.setIfInBounds_toArray, (encS_set xs i x hx v true).1,
      (encS_set _ i (v, x.2) (by simp [hi]) v true).2.1, List.set_set, (encS_set _ i (v, v, x.2.2) (by simp [hi]) v false).2.2, List.set_set] at hb
    exact hb
  · have ne : ∀ {v : Value} {o : Option (List UInt8)}, Byt w v o → ∀ k, v.ownBlock = some k → k ∉ [L] := by
      intro v o hv k hk hm
      simp at hm; subst hm
      exact hv.ne h.2.1 (by decide) hk
    intro j y z hy hz
    rw [List.getElem?_set] at hy hz
    by_cases hj : i = j
    · subst hj
      rw [if_pos rfl, if_pos hi] at hy
      rw [if_pos rfl, if_pos (by rw [← h.2.2.1.1]; exact hi)] at hz
      cases hy
      cases hz
      exact ⟨hv.turn ht1 (ne hv), hv.turn ht1 (ne hv), rfl, ho, ho⟩
    · rw [if_neg hj] at hy hz
      obtain ⟨a, b, c1⟩ := h.2.2.1.2 j y z hy hz
      exact ⟨a.turn ht1 (ne a), b.turn ht1 (ne b), c1⟩

/-! ### Load -/
def pieceAt (l : List UInt8) (k : Nat) : List UInt8 := (l.drop (k * 256)).take 256
def loadTo (l : List UInt8) (n k : Nat) : Dsk := { Dsk.new n with secs := (List.range n).map fun i => if i < k then ⟨some (pieceAt l i), some (pieceAt l i), false⟩ else ⟨none, none, false⟩ }
theorem loadTo_zero (l : List UInt8) (n : Nat) : loadTo l n 0 = Dsk.new n := by
  simp only [loadTo, Dsk.new, Dsk.mk.injEq, and_true]
  apply List.ext_getElem? ; intro i
  simp [List.getElem?_replicate]
  split <;> simp_all
theorem loadTo_succ (l : List UInt8) (n k : Nat) : { loadTo l n k with secs := (loadTo l n k).secs.set k ⟨some (pieceAt l k), some (pieceAt l k), false⟩ } = loadTo l n (k + 1) := by
  simp only [loadTo, Dsk.mk.injEq, and_true]
  apply List.ext_getElem? ; intro i
  rw [List.getElem?_set]
  simp only [List.getElem?_map, List.length_map, List.length_range]
  by_cases hk : k = i
  · subst hk
    by_cases hn : k < n
    · simp [hn]
    · simp [hn]
  · by_cases hn : i < n
    · by_cases hl : i < k
      · have : i < k + 1 := by omega
        simp [hk, hn, hl, this]
      · have : ¬ i < k + 1 := by omega
        simp [hk, hn, hl, this]
    · simp [hk, hn]

theorem pieceAt_len (l : List UInt8) (k n : Nat) (h : l.length = n * 256) (hk : k < n) : (pieceAt l k).length = 256 := by
  simp [pieceAt]; omega
end Go.Proofs.YtomngfihaohgdaaDoor
