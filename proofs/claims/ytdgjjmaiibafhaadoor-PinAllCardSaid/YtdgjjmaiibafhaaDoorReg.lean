/-
  A region that draws its order, walked by hand: what reads is taken first, under 'nothing that was there has turned'; a call or a new block when it alone may come up. And string(b) of bytes.
-/
import Derived.Test.YtdgjjmaiibafhaaDoorApp2
import Derived.Deep.RegionHeld3
namespace Go.Proofs.YtdgjjmaiibafhaaDoor
set_option maxRecDepth 100000
open Go.RowKit

/-- string(b) -/
theorem toStr {w : World} {b off : Nat} {l : List UInt8} (h : At w b off l) (c : Nat) : (convert 22 9 (.slice (some ⟨b, off, none⟩) l.length c)).run Tryd.prog w = .ok (.string ⟨l.toArray⟩) w := by
  have h1 := run_convert_bytes_arg (P := Tryd.prog) w 22 5 Tryd.underlying22 Tryd.underlying5 b off l.length c (l.map fun x => (x.toNat : Int)) (by simp)
    (fun i hi => by have := h.cell hi; simpa [B, List.getD, hi] using this) 9 Tryd.underlying9
  rw [h1]
  congr 2
  unfold strOfNums
  congr 1
  rw [List.map_map]
  have : (fun n : Int => UInt8.ofNat n.toNat) ∘ (fun x : UInt8 => (x.toNat : Int)) = id := by funext x; simp
  rw [this, List.map_id]
theorem toStr_nil (w : World) (n c : Nat) : (convert 22 9 (.slice none n c)).run Tryd.prog w = .ok (.string ⟨([] : List UInt8).toArray⟩) w :=
  run_convert_bytes_nil (P := Tryd.prog) w 22 5 Tryd.underlying22 Tryd.underlying5 n c 9 Tryd.underlying9
theorem Rd.str {w : World} {A : Option Addr} {m c : Nat} {l : List UInt8} (h : Rd w A m c l) : (convert 22 9 (.slice A m c)).run Tryd.prog w = .ok (.string ⟨l.toArray⟩) w := by
  obtain ⟨rfl, h2, h3, ⟨rfl, hc⟩ | ⟨b, off, rfl, hat⟩⟩ := h
  · have hz : l.length = 0 := by omega
    obtain rfl := List.length_eq_zero_iff.1 hz
    exact toStr_nil w _ _
  · exact toStr hat c
theorem Rd.str_below {w w' : World} {A : Option Addr} {m c : Nat} {l : List UInt8} (h : Rd w A m c l) (hb : Below w.heap.size w w') : (convert 22 9 (.slice A m c)).run Tryd.prog w' = .ok (.string ⟨l.toArray⟩) w' := (h.below hb).str

section
variable {P : Program} {ops : Array Oper} {Q : Exit → Act → World → Prop} {md : Region.Mode} {S : World → Prop}
theorem takeL {i : Nat} {oi : Oper} {v : Value} {fuel : Nat} {listed : Array Bool} {a : Act} {w : World} (hi : ops.toList[i]? = some oi)
    (hs : Region.noSelect ops = true) (hf : Region.free md ops listed i = true) (hr : (Region.ready md ops listed).contains i = true)
    (hQ : ∀ c a w, Q (.panic c) (a.put oi.dst v) w → Q (.panic c) a w) (hy : YieldsIf P ops S oi v a) (hS : S w)
    (h : wpAnyH P md ops Q S fuel (listed.setIfInBounds i true) (a.put oi.dst v) w) : wpAnyH P md ops Q S (fuel + 1) listed a w :=
  wpAnyH_take (by simpa using hi) hs hf hr hQ hy hS h
theorem consL {fuel : Nat} {listed : Array Bool} {a : Act} {w : World} {i : Nat} {o : Oper} {rs : List Nat} (ho : ops.toList[i]? = some o)
    (h : ∀ K' : Act → World → Prop, Shut (∀ a w, S w → (S w → wpAnyH P md ops Q S fuel (listed.setIfInBounds i true) a w) → K' a w) → if Region.wanted o (yielded ops a.tmps) = true then Oper.wp P o a w K' Q else K' (a.put o.dst undef) w)
    (hs : AllReadyH P md ops Q S fuel listed a w rs) : AllReadyH P md ops Q S fuel listed a w (i :: rs) := AllReadyH.cons (by simpa using ho) h hs
end
/-- A stronger word serves. -/
theorem wpAnyH_mono {P : Program} {md : Region.Mode} {ops : Array Oper} {Q : Exit → Act → World → Prop} {S S' : World → Prop} (h : ∀ w, S' w → S w) :
    ∀ (fuel : Nat) (listed : Array Bool) (a : Act) (w : World), wpAnyH P md ops Q S' fuel listed a w → wpAnyH P md ops Q S fuel listed a w
  | 0, _, _, _, hw => hw
  | fuel + 1, _, _, _, hw => ⟨hw.1, fun i hi => wpOp_mono (fun a' w' h' => ⟨h w' h'.1, wpAnyH_mono h fuel _ a' w' h'.2⟩) (hw.2 i hi)⟩
/-- Nothing that was there has turned. -/
def Old (w0 w : World) : Prop := Below w0.heap.size w0 w
theorem Old.refl (w : World) : Old w w := Below.refl _ w
theorem Old.drew {w0 w : World} (h : Old w0 w) : Old w0 w.drew := Below.drew h
theorem Old.alloc {w0 w : World} (h : Old w0 w) (o : Obj) : Old w0 (w.alloc o) := Below.alloc h (Below.size h) o
theorem Old.trans {w0 w1 w : World} (h : Old w0 w1) (h' : Old w1 w) : Old w0 w := Below.trans h (Below.mono h' (Below.size h))
theorem Old.drewN {w0 w : World} (h : Old w0 w) (n : Nat) : Old w0 (w.drewN n) := ⟨h.os, h.tape, h.output, h.size, h.block⟩
theorem wpAnyH_old {P : Program} {md : Region.Mode} {ops : Array Oper} {Q : Exit → Act → World → Prop} {w0 w1 : World} (h01 : Old w0 w1) {fuel : Nat} {listed : Array Bool} {a : Act} {w : World}
    (h : Old w1 w → wpAnyH P md ops Q (Old w1) fuel listed a w) (hw : Old w1 w) : wpAnyH P md ops Q (Old w0) fuel listed a w :=
  wpAnyH_mono (fun _ h' => h01.trans h') _ _ _ _ (h hw)
theorem region_old {P : Program} {ops : Array Oper} {Q : Exit → Act → World → Prop} {id : Nat} {a : Act} {w : World} (hm : P.follows .mixedOrders = true)
    (h : ∀ wd, Old w wd → w.heap.size = wd.heap.size → wpAnyH P .any ops (NoPanic Q) (Old w) ops.size (Array.replicate ops.size false) a wd) : (Code.region id ops true).wp P Q a w :=
  wp_region_noPanic (wp_region_held_drew hm (Old.drew (Old.refl w)) (fun hS => h _ hS rfl))
end Go.Proofs.YtdgjjmaiibafhaaDoor
