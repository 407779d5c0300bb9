/-
  append on bytes: what the old row holds behind it; a drawn region in which one row of bytes of the call's own is appended to.
-/
import Derived.Test.YtnpncbpbeikcaaaApp2
import Derived.Test.YtnpncbpbeikcaaaReg
namespace Go.Proofs.Ytnpncbpbeikcaaa
open Go.RowKit

/-- Of what was there only the row v may have turned, and that holds l yet. -/
def Tow (base : Nat) (v : Value) (l : List UInt8) (w0 w : World) : Prop := Turn v.ownBlock.toList w0 w ∧ Own w base v l
section
variable {base : Nat} {v : Value} {l : List UInt8} {w0 w1 w : World}
theorem Tow.refl (h : Own w base v l) : Tow base v l w w := ⟨Turn.refl _ w, h⟩
theorem Tow.drew (h : Tow base v l w0 w) : Tow base v l w0 w.drew := ⟨Turn.drew h.1, h.2⟩
theorem Tow.drewN (h : Tow base v l w0 w) (n : Nat) : Tow base v l w0 (w.drewN n) := ⟨Turn.drewN h.1 n, h.2⟩
theorem Tow.alloc (h : Tow base v l w0 w) (o : Obj) : Tow base v l w0 (w.alloc o) := ⟨Turn.alloc h.1 o, h.2.alloc_ o⟩
theorem Tow.trans (h : Tow base v l w0 w1) (h' : Tow base v l w1 w) : Tow base v l w0 w := ⟨Turn.trans h.1 h'.1 (fun _ hx => .inl hx), h'.2⟩
theorem Tow.old (h : Tow base v l w0 w1) (h' : Old w1 w) : Tow base v l w0 w := ⟨Turn.trans h.1 (Turn.of_below [] h') (fun _ hx => by cases hx), h.2.below h'⟩
theorem Tow.app (h : Tow base v l w0 w1) (hg : w1.grownBy w v.ownBlock) (ho : Own w base v l) : Tow base v l w0 w := ⟨h.1.grown hg (fun k hk => .inl (by rw [hk]; simp)), ho⟩
theorem Tow.notin (h : Own w0 base v l) {b : Nat} (hb : w0.heap.size ≤ b) : b ∉ v.ownBlock.toList := fun hm => by
  have := (h.lt (show _ = some b by simpa using hm)).2; omega
theorem Rd.tow {A : Option Addr} {m c : Nat} {l2 : List UInt8} (h : Rd w0 A m c l2) (hn : ∀ ad, A = some ad → ad.block ∉ v.ownBlock.toList) (ht : Tow base v l w0 w) : Rd w A m c l2 := h.turn ht.1 hn
theorem wpAnyH_tow {P : Program} {md : Region.Mode} {ops : Array Oper} {Q : Exit → Act → World → Prop} (h01 : Tow base v l w0 w1) {fuel : Nat} {listed : Array Bool} {a : Act}
    (h : Tow base v l w1 w → wpAnyH P md ops Q (Tow base v l w1) fuel listed a w) (hw : Tow base v l w1 w) : wpAnyH P md ops Q (Tow base v l w0) fuel listed a w :=
  wpAnyH_mono (fun _ h' => h01.trans h') _ _ _ _ (h hw)
/-- From here on nothing that was there turns. -/
theorem wpAnyH_tow_old {P : Program} {md : Region.Mode} {ops : Array Oper} {Q : Exit → Act → World → Prop} (h01 : Tow base v l w0 w1) {fuel : Nat} {listed : Array Bool} {a : Act}
    (h : Old w1 w → wpAnyH P md ops Q (Old w1) fuel listed a w) (hw : Old w1 w) : wpAnyH P md ops Q (Tow base v l w0) fuel listed a w :=
  wpAnyH_mono (fun _ h' => h01.old h') _ _ _ _ (h hw)
theorem region_tow {P : Program} {ops : Array Oper} {Q : Exit → Act → World → Prop} {id : Nat} {a : Act} (ho : Own w base v l) (hm : P.follows .mixedOrders = true)
    (h : ∀ wd, Tow base v l w wd → w.heap.size = wd.heap.size → wpAnyH P .any ops (NoPanic Q) (Tow base v l w) ops.size (Array.replicate ops.size false) a wd) : (Code.region id ops true).wp P Q a w :=
  wp_region_noPanic (wp_region_held_drew hm (Tow.drew (Tow.refl ho)) (fun hS => h _ hS rfl))
end
end Go.Proofs.Ytnpncbpbeikcaaa
