/-
  Contracts of the small functions of package disk, and of bytes.Clone.
-/
import Derived.Test.YtomngfihaohgdaaDoorApp
import Derived.Test.YtomngfihaohgdaaDoorRows
namespace Go.Proofs.YtomngfihaohgdaaDoor
open Go.RowKit

/-- zeros: a row of its own; of nil 256 zeros. -/
theorem zeros_any (v : Value) (o : Option (List UInt8)) (w : World) (h : Byt w v o) (hc : ∀ l, o = some l → l.length ≤ 140737488351232) :
    Calls Tryd.prog 46 #[v] w fun e w' =>
      ∃ g c', e = .returned (.slice (some ⟨g, 0, none⟩) (o.getD (zs 256)).length c') ∧ Own w' w.heap.size (.slice (some ⟨g, 0, none⟩) (o.getD (zs 256)).length c') (o.getD (zs 256)) ∧ Below w.heap.size w w' := by
  have hE := eqNilBytes
  cases o with
  | none =>
    cases h
    have hM := Tryd.prog_make 256 (by omega)
    rw [show ((256 : Nat) : Int) = 256 from rfl] at hM
    go_enter Tryd.func46, Tryd.ntmps46
    go_wp2
    go_ret
    have h256 : ((none : Option (List UInt8)).getD (zs 256)).length = 256 := zs_len 256
    rw [h256]
    exact ⟨_, _, rfl, Own.made w 256 (by unfold maxLen; omega), (Below.refl _ _).alloc (Nat.le_refl _) _⟩
  | some l =>
    obtain ⟨b, c, rfl, ha⟩ := h.some_form
    have hl := hc l rfl
    clear hc h
    go_enter Tryd.func46, Tryd.ntmps46
    go_wp2_with (go_at_call 47; refine (clone_any b 0 l.length c l _ ha rfl hl).mono ?_; rintro e w' ⟨g, c', rfl, h1, h3⟩)
    go_ret
    exact ⟨_, _, rfl, h1, h3⟩
end Go.Proofs.YtomngfihaohgdaaDoor
