/-
  Contracts of disk.Image.
-/
import Derived.Test.YtomngfihaohgdaaDoorDisk5
namespace Go.Proofs.YtomngfihaohgdaaDoor
open Go.RowKit

def Dsk.imageTo (s : Dsk) (k : Nat) : List UInt8 := (s.secs.take k).flatMap Sec.read
def Dsk.image (s : Dsk) : List UInt8 := s.secs.flatMap Sec.read
theorem Dsk.imageTo_zero (s : Dsk) : s.imageTo 0 = [] := rfl
theorem Dsk.imageTo_all (s : Dsk) : s.imageTo s.secs.length = s.image := by simp [imageTo, image]
theorem Dsk.imageTo_succ (s : Dsk) (k : Nat) (h : k < s.secs.length) : s.imageTo (k + 1) = s.imageTo k ++ s.secs[k].read := by
  unfold imageTo
  rw [List.take_succ_eq_append_getElem h, List.flatMap_append]
  simp

theorem Sec.read_len {w : World} {d L : Nat} {xs : List SecV} {s : Dsk} (h : DiskAt w d L xs s) (i : Nat) (hi : i < s.secs.length) : s.secs[i].read.length = 256 := by
  obtain ⟨x, hx⟩ : ∃ x, xs[i]? = some x := ⟨_, List.getElem?_eq_getElem (by rw [h.2.2.1.1]; exact hi)⟩
  have hs := h.2.2.1.2 i x _ hx (List.getElem?_eq_getElem hi)
  unfold Sec.read
  cases hn : s.secs[i].now with
  | none => exact zs_len 256
  | some l => simpa using hs.2.2.2.1 l hn
theorem Dsk.imageTo_len {w : World} {d L : Nat} {xs : List SecV} {s : Dsk} (h : DiskAt w d L xs s) (k : Nat) (hk : k ≤ s.secs.length) : (s.imageTo k).length = k * 256 := by
  induction k with
  | zero => rfl
  | succ k ih => rw [Dsk.imageTo_succ s k (by omega), List.length_append, ih (by omega), Sec.read_len h k (by omega)]; omega

end Go.Proofs.YtomngfihaohgdaaDoor
