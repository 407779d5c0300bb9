/-
  The law FsFormat, whatever the arguments; a slice of bools that came in.
-/
import Derived.Test.YtgjnmpjimhbfgaaGreatDoorZzFs16
import Derived.Test.YtgjnmpjimhbfgaaGreatDoorOpenE
namespace Go.Proofs.YtgjnmpjimhbfgaaGreatDoor
set_option maxRecDepth 100000
open Go.RowKit Go.ChangeShapes Go.WideShapes Go.ChangeAt
end Go.Proofs.YtgjnmpjimhbfgaaGreatDoor
namespace Go.Proofs.YtgjnmpjimhbfgaaGreatDoor
set_option maxRecDepth 100000
open Go.RowKit
def Tryz.eP : ETy PutV where
 t := 113
 ts := 75
 sz := 2
 bytes := 32
 z := .agg #[.int .i64 0, .slice none 0 0]
 cells := fun p => [.int .i64 p.blk, .slice p.A p.n p.c]
 len := fun _ => rfl
 one := fun x u hu => by simp at hu; rcases hu with rfl | rfl <;> rfl
 pos := by decide
 zsz := rfl
 small := by decide
 und := Tryz.underlying75
 info := by kernel_rfl
def PutsOwn (w : World) (base : Nat) (v : Value) (ps : List PutV) : Prop := OwnE Tryz.eP w base v ps ∧ ∀ p ∈ ps, Own w base (.slice p.A p.n p.c) p.l
theorem PutsOwn.below {w w' : World} {base : Nat} {v : Value} {ps : List PutV} (h : PutsOwn w base v ps) (hb : Below w.heap.size w w') : PutsOwn w' base v ps := ⟨h.1.below hb, fun r hr => (h.2 r hr).below hb⟩
theorem PutsOwn.turn {w w' : World} {base : Nat} {v : Value} {rs : List PutV} {S : List Nat} (h : PutsOwn w base v rs) (ht : Turn S w w') (hS : ∀ g ∈ S, ∃ t cs, Blk w g t cs ∧ t ≠ 5 ∧ t ≠ 113) : PutsOwn w' base v rs := by
 refine ⟨h.1.turn ht fun g hg hm => ?_, fun r hr => (h.2 r hr).turn ht fun g hg hm => ?_⟩
 ·obtain ⟨t, cs, hb, _, h2⟩ := hS g hm
  exact h.1.ne hb h2 hg
 ·obtain ⟨t, cs, hb, h1, _⟩ := hS g hm
  exact (h.2 r hr).ne hb h1 hg
theorem PutsOwn.at_ {w : World} {base : Nat} {A : Option Addr} {n c : Nat} {ps : List PutV} (h : PutsOwn w base (.slice A n c) ps) (h0 : 0 < ps.length) : ∃ P, A = some ⟨P, 0, none⟩ ∧ PutsAt w P ps ∧ base ≤ P := by
 have hl := h.1.len
 have hE := h.1
 obtain ⟨h1, h2⟩ := h.1
 rcases h2 with ⟨e, _⟩ | ⟨g, cap, cur, e, hg, hh, _⟩
 ·injection e; omega
 ·injection e with e1 e2 e3
  subst e1
  have hb : Blk w g 113 cur := hh
  refine ⟨g, rfl, ⟨fun k p hk => ?_, hb.lt⟩, hg⟩
  obtain ⟨g', off, hA, hgl, hc⟩ := hE.rd.at_ hk
  injection hA with hA
  injection hA with hA1 hA2
  subst hA1 hA2
  have c0 := hc 0 (by decide)
  have c1 := hc 1 (by decide)
  have hs : Tryz.eP.sz = 2 := rfl
  rw [hs, Nat.zero_add] at c0 c1
  exact ⟨c0, c1, (h.2 p (List.mem_of_getElem? hk)).rd⟩
theorem full256_len (l : List UInt8) : (full l 256).length = 256 := by
 unfold full
 rw [if_neg (by omega)]
 split
 ·exact zs_len 256
 ·exact fullTo_len _ _ _
end Go.Proofs.YtgjnmpjimhbfgaaGreatDoor
