/-
  append on bytes, as the walk meets it; contracts of zbyte.Append32, Append64, Put64, bytes.Clone.
-/
import Derived.Test.YtnpncbpbeikcaaaWords
import Derived.Laws.AppendOwnNone
import Derived.Laws.CopyOwn
import Derived.Deep.RegionHeld3
namespace Go.Proofs.Ytnpncbpbeikcaaa
open Go.RowKit

theorem Try.infoU8 : (Try.prog.info? 5).map (fun i => (i.zero, i.size, i.bytes)) = some (some (.int .u8 0), 1, 1) := by kernel_rfl

theorem Own.blk {w : World} {base g n c : Nat} {l : List UInt8} (h : Own w base (.slice (some ⟨g, 0, none⟩) n c) l) : n = l.length ∧ n ≤ c ∧ c ≤ maxLen ∧ base ≤ g ∧ ∃ cur : List Value, w.heap[g]? = some (.cells cur.toArray 5 (0, 0)) ∧ cur.length = c ∧ cur.take n = l.map B := by
  obtain ⟨h1, h2⟩ := h
  rcases h2 with ⟨h2, _⟩ | ⟨g', cap, cur, he, hg, hh, hnc, hm, hcur, hx⟩
  · cases h2
  · cases he
    exact ⟨rfl, hnc, hm, hg, cur.toList, hh, by simpa using hcur, by simpa using hx⟩
theorem Own.of_cells {w : World} {base g c : Nat} {l : List UInt8} {cur : List Value} (hh : w.heap[g]? = some (.cells cur.toArray 5 (0, 0))) (hg : base ≤ g) (hc : cur.length = c) (hm : c ≤ maxLen) (hl : l.length ≤ c) (hx : cur.take l.length = l.map B) : Own w base (.slice (some ⟨g, 0, none⟩) l.length c) l :=
  ⟨by simp, .inr ⟨g, c, cur.toArray, rfl, hg, hh, hl, hm, by simpa using hc, by simpa using hx⟩⟩

/-- What an append leaves: only the row itself has turned. -/
theorem Turn.of_grown {w w' : World} {v : Value} (hg : w.grownBy w' v.ownBlock) : Turn v.ownBlock.toList w w' :=
  ⟨hg.os, hg.tape, hg.output, hg.size, fun k hk hn => hg.block k hk (fun e => hn (by rw [← e]; simp))⟩
theorem Turn.app {w w1 w2 : World} {v v' : Value} (h : Turn v.ownBlock.toList w w1) (hg : w1.grownBy w2 v'.ownBlock) (hv : v'.ownBlock = v.ownBlock ∨ ∃ k, w.heap.size ≤ k ∧ v'.ownBlock = some k) : Turn v.ownBlock.toList w w2 := by
  refine h.grown hg fun k hk => ?_
  rcases hv with hv | ⟨j, hj, hv⟩
  · left; rw [← hv, hk]; simp
  · right; rw [hv] at hk; cases hk; exact hj
theorem Rd.of_blk {w : World} {g : Nat} {fr : Nat × Nat} {l : List UInt8} (h : w.heap[g]? = some (.cells (l.map B).toArray 5 fr)) (hl : l.length ≤ maxLen) : Rd w (some ⟨g, 0, none⟩) l.length l.length l := by
  refine ⟨rfl, Nat.le_refl _, hl, .inr ⟨g, 0, rfl, ?_, fun k x hx => ?_⟩⟩
  · rcases Nat.lt_or_ge g w.heap.size with h' | h'
    · exact h'
    · rw [Array.getElem?_eq_none h'] at h; cases h
  · simp [World.cell?, h, hx]

def bytes32 (x : UInt32) : List UInt8 := [(x >>> 24).toUInt8, (x >>> 16).toUInt8, (x >>> 8).toUInt8, x.toUInt8]
def bytes64 (x : UInt64) : List UInt8 := [(x >>> 56).toUInt8, (x >>> 48).toUInt8, (x >>> 40).toUInt8, (x >>> 32).toUInt8, (x >>> 24).toUInt8, (x >>> 16).toUInt8, (x >>> 8).toUInt8, x.toUInt8]

end Go.Proofs.Ytnpncbpbeikcaaa
