/-
  The law FsFormat, whatever the arguments; a slice of bools that came in.
-/
import Derived.Test.YtgjnmpjimhbfgaaGreatDoorZzFs16
import Derived.Test.YtgjnmpjimhbfgaaGreatDoorOpenE
namespace Go.Proofs.YtgjnmpjimhbfgaaGreatDoor
set_option maxRecDepth 100000
open Go.RowKit Go.ChangeShapes Go.WideShapes Go.ChangeAt
def Tryz.eB : ETy Bool where
 t := 4
 ts := 62
 sz := 1
 bytes := 1
 z := .bool false
 cells := fun b => [.bool b]
 len := fun _ => rfl
 one := fun x u hu => by simp at hu; subst hu; rfl
 pos := by decide
 zsz := rfl
 small := by decide
 und := Tryz.underlying62
 info := by kernel_rfl
theorem bools_all : ∀ l : List Bool, Tryz.eB.all l = l.map Value.bool
 | [] => rfl
 | y :: l => by
  have ih := bools_all l
  unfold ETy.all at ih ⊢
  rw [List.flatMap_cons, List.map_cons, ih]; rfl
theorem RdC.bools {W : World} {A : Option Addr} {m : Nat} {l : List Bool} (h : RdC Tryz.eB W A m l) : BoolsAt W A l := by
 obtain ⟨h1, h2 | ⟨g, off, h2, h3, h4⟩⟩ := h
 ·left; rw [h2] at h1; exact List.eq_nil_of_length_eq_zero h1
 ·right
  refine ⟨g, off, h2, h3, fun j x hj => h4 j (.bool x) ?_⟩
  have e := bools_all l
  rw [e, List.getElem?_map, hj]; rfl
section
variable {H : Type} {enc : TypeId × Value → H}
theorem open_bools {W : World} {base : Nat} {v : Value} {d : DataW H} {p : List MemPlace} (hval : Value.okWide Tryz.prog W .any base 62 v) (h : DataW.Trod enc Tryz.prog W 0 (fun _ => true) true 62 v d p) :
  ∃ A m c l, v = .slice A m c ∧ m ≤ maxLen ∧ l.length = m ∧ BoolsAt W A l := by
 obtain ⟨A, m, c, l, h1, h2, _, h3, _⟩ := open_sliceE Tryz.eB (fun _ => True) (by kernel_rfl) (fun n cs y h => by
  obtain ⟨b, e, _⟩ := DataW.trod_bool Tryz.underlying4 h
  exact ⟨b, e, trivial⟩) (fun x => ⟨_, rfl, .i64, 0, .inr ⟨x, rfl⟩⟩) hval h
 exact ⟨A, m, c, l, h1, h2, h3.1, h3.bools⟩
end
end Go.Proofs.YtgjnmpjimhbfgaaGreatDoor
namespace Go.Proofs.YtgjnmpjimhbfgaaGreatDoor
set_option maxRecDepth 100000
open Go.RowKit
def Tryz.eP : ETy PutV where
 t := 113
 ts := 75
 sz := 2
 bytes := 32
 z := .agg #[.int .i64 0, .slice none 0 0]
 cells := fun p => [.int .i64 p.blk, .slice p.A p.n p.c]
 len := fun _ => rfl
 one := fun x u hu => by simp at hu; rcases hu with rfl | rfl <;> rfl
 pos := by decide
 zsz := rfl
 small := by decide
 und := Tryz.underlying75
 info := by kernel_rfl
def PutsOwn (w : World) (base : Nat) (v : Value) (ps : List PutV) : Prop := OwnE Tryz.eP w base v ps ∧ ∀ p ∈ ps, Own w base (.slice p.A p.n p.c) p.l
theorem PutsOwn.below {w w' : World} {base : Nat} {v : Value} {ps : List PutV} (h : PutsOwn w base v ps) (hb : Below w.heap.size w w') : PutsOwn w' base v ps := ⟨h.1.below hb, fun r hr => (h.2 r hr).below hb⟩
theorem PutsOwn.turn {w w' : World} {base : Nat} {v : Value} {rs : List PutV} {S : List Nat} (h : PutsOwn w base v rs) (ht : Turn S w w') (hS : ∀ g ∈ S, ∃ t cs, Blk w g t cs ∧ t ≠ 5 ∧ t ≠ 113) : PutsOwn w' base v rs := by
 refine ⟨h.1.turn ht fun g hg hm => ?_, fun r hr => (h.2 r hr).turn ht fun g hg hm => ?_⟩
 ·obtain ⟨t, cs, hb, _, h2⟩ := hS g hm
  exact h.1.ne hb h2 hg
 ·obtain ⟨t, cs, hb, h1, _⟩ := hS g hm
  exact (h.2 r hr).ne hb h1 hg
theorem PutsOwn.at_ {w : World} {base : Nat} {A : Option Addr} {n c : Nat} {ps : List PutV} (h : PutsOwn w base (.slice A n c) ps) (h0 : 0 < ps.length) : ∃ P, A = some ⟨P, 0, none⟩ ∧ PutsAt w P ps ∧ base ≤ P := by
 have hl := h.1.len
 have hE := h.1
 obtain ⟨h1, h2⟩ := h.1
 rcases h2 with ⟨e, _⟩ | ⟨g, cap, cur, e, hg, hh, _⟩
 ·injection e; omega
 ·injection e with e1 e2 e3
  subst e1
  have hb : Blk w g 113 cur := hh
  refine ⟨g, rfl, ⟨fun k p hk => ?_, hb.lt⟩, hg⟩
  obtain ⟨g', off, hA, hgl, hc⟩ := hE.rd.at_ hk
  injection hA with hA
  injection hA with hA1 hA2
  subst hA1 hA2
  have c0 := hc 0 (by decide)
  have c1 := hc 1 (by decide)
  have hs : Tryz.eP.sz = 2 := rfl
  rw [hs, Nat.zero_add] at c0 c1
  exact ⟨c0, c1, (h.2 p (List.mem_of_getElem? hk)).rd⟩
theorem full256_len (l : List UInt8) : (full l 256).length = 256 := by
 unfold full
 rw [if_neg (by omega)]
 split
 ·exact zs_len 256
 ·exact fullTo_len _ _ _
theorem isM_good {s : Dsk} {B c : Nat} {m : List (List UInt8)} (hB : (s.n - 8) / 2 = B) (hm : m.length = B) (hg : Good headB s c m) : isM s c m = true := by
 refine decide_eq_true fun i hi => ?_
 obtain ⟨b, hb⟩ : ∃ b, m[i]? = some b := ⟨_, List.getElem?_eq_getElem hi⟩
 have := (hg.side i b hb).1
 rw [hB, ← hm] at this
 rw [hb, this]; rfl
end Go.Proofs.YtgjnmpjimhbfgaaGreatDoor
