/-
  Contracts of disk.New, Write, Sync.
-/
import Derived.Test.YtomngfihaohgdaaDoorDisk2
import Derived.StillTailTactics
import Derived.Deep.RegionHeld3
namespace Go.Proofs.YtomngfihaohgdaaDoor
open Go.RowKit

theorem Tryd.infoSec : (Tryd.prog.info? 69).map (fun i => (i.zero, i.size, i.bytes)) = some (some (.agg #[.slice none 0 0, .slice none 0 0, .bool false]), 3, 56) := by kernel_rfl

theorem madeSecs (n : Nat) : madeCells #[.slice none 0 0, .slice none 0 0, .bool false] (n * 3) = (encS (List.replicate n (.slice none 0 0, .slice none 0 0, false))).toArray := by
  apply Array.ext'
  unfold madeCells
  rw [Array.toList_map, Array.toList_range]
  induction n with
  | zero => rfl
  | succ n ih =>
    have e : (n + 1) * 3 = n * 3 + 1 + 1 + 1 := by omega
    rw [e, List.range_succ, List.range_succ, List.range_succ, List.map_append, List.map_append, List.map_append, ih, List.replicate_succ']
    have e0 : (n * 3) % 3 = 0 := by omega
    have e1 : (n * 3 + 1) % 3 = 1 := by omega
    have e2 : (n * 3 + 1 + 1) % 3 = 2 := by omega
    simp [encS, e0, e1, e2]

theorem Tryd.makeSecs (n : Nat) (hn : n ≤ 65536) (w : World) : (Instr.makeSlice 65 (.int .i64 (n : Int)) (.int .i64 (n : Int))).run Tryd.prog w =
    .ok (.slice (some ⟨w.heap.size, 0, none⟩) n n) (w.alloc (.cells (encS (List.replicate n (.slice none 0 0, .slice none 0 0, false))).toArray 69)) := by
  obtain ⟨i0, hi, hz0, hz1, hz2⟩ := info_parts Tryd.infoSec
  have hr := run_make (P := Tryd.prog) w 65 69 i0 _ Tryd.underlying65 hi hz0 .i64 .i64 n n (by omega) (by omega) (by rw [hz2]; omega) (by omega)
  simp only [Int.toNat_natCast, hz1, Value.cells] at hr
  rw [madeSecs] at hr
  exact hr

def Dsk.new (n : Nat) : Dsk := { secs := List.replicate n ⟨none, none, false⟩, fused := false, left := 0, dead := false, count := 0 }

theorem new_out (n : Int) (h : n < 1 ∨ 65536 < n) (w : World) : Calls Tryd.prog 20 #[.int .i64 n] w fun e w' => e = .returned (.pointer none) ∧ w = w' := by
  rcases Int.lt_or_le n 1 with h0 | h0
  · go_enter Tryd.func20, Tryd.ntmps20
    go_wp2
    go_ret
    exact ⟨rfl, rfl⟩
  · have h1 : 65536 < n := by omega
    clear h
    go_enter Tryd.func20, Tryd.ntmps20
    go_wp2
    go_ret
    exact ⟨rfl, rfl⟩
theorem new_in (n : Nat) (h0 : 1 ≤ n) (h1 : n ≤ 65536) (w : World) : Calls Tryd.prog 20 #[.int .i64 n] w fun e w' =>
    e = .returned (.pointer (some ⟨w.heap.size + 1, 0, none⟩)) ∧ DiskAt w' (w.heap.size + 1) w.heap.size (List.replicate n (.slice none 0 0, .slice none 0 0, false)) (Dsk.new n) ∧ Below w.heap.size w w' := by
  have hM := Tryd.makeSecs n h1
  go_enter Tryd.func20, Tryd.ntmps20
  go_wp2
  go_ret
  refine ⟨rfl, ⟨?_, ?_, ⟨by simp [Dsk.new], ?_⟩, by simp [Dsk.new]; omega, by simp [Dsk.new]; omega⟩, ((Below.refl _ _).alloc (Nat.le_refl _) _).alloc (by simp) _⟩
  · have := Blk.new (w.alloc (.cells (encS (List.replicate n (.slice none 0 0, .slice none 0 0, false))).toArray 69)) 67 #[.slice (some ⟨w.heap.size, 0, none⟩) n n, .bool false, .int .i64 0, .bool false, .int .i64 0]
    simpa [Dsk.new] using this
  · exact (Blk.new w _ _).alloc _
  · intro i x s hx hs
    simp [Dsk.new, List.getElem?_replicate] at hx hs
    obtain ⟨_, rfl⟩ := hx
    obtain ⟨_, rfl⟩ := hs
    exact ⟨rfl, rfl, rfl, (fun l h => by cases h), (fun l h => by cases h)⟩
end Go.Proofs.YtomngfihaohgdaaDoor
