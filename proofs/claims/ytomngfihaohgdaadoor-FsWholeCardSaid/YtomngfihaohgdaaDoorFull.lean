/-
  Contract of baileylaw13.Full.
-/
import Derived.Test.YtomngfihaohgdaaDoorDisk1
namespace Go.Proofs.YtomngfihaohgdaaDoor
open Go.RowKit

def fullTo (l : List UInt8) (n k : Nat) : List UInt8 := (List.range n).map fun i => if i < k then l.getD (i % l.length) 0 else 0
theorem fullTo_len (l : List UInt8) (n k : Nat) : (fullTo l n k).length = n := by simp [fullTo]
theorem fullTo_zero (l : List UInt8) (n : Nat) : fullTo l n 0 = zs n := by
  unfold fullTo zs
  apply List.ext_getElem? ; intro i
  simp [List.getElem?_replicate]
  by_cases h : i < n <;> simp [h]
theorem fullTo_succ (l : List UInt8) (n k : Nat) (h : k < n) : (fullTo l n k).set k (l.getD (k % l.length) 0) = fullTo l n (k + 1) := by
  unfold fullTo
  apply List.ext_getElem? ; intro i
  rw [List.getElem?_set]
  simp only [List.getElem?_map, List.length_map, List.length_range]
  by_cases hk : k = i
  · subst hk
    simp [h]
  · by_cases hn : i < n
    · by_cases hl : i < k
      · have : i < k + 1 := by omega
        simp [hk, hn, hl, this]
      · have : ¬ i < k + 1 := by omega
        simp [hk, hn, hl, this]
    · simp [hk, hn]
/-- What Full gives. -/
def full (l : List UInt8) (n : Int) : List UInt8 := if n < 0 ∨ 20000 < n then [] else if l = [] then zs n.toNat else fullTo l n.toNat n.toNat

theorem setB (xs : List UInt8) (k : Nat) (x : UInt8) : ((xs.map B).toArray).setIfInBounds k (B x) = ((xs.set k x).map B).toArray := by
  rw [List.setIfInBounds_toArray, List.map_set]
theorem Own.of_blk {w : World} {base g : Nat} {l : List UInt8} {n : Nat} (h : Blk w g 5 (l.map B).toArray) (hn : n = l.length) (hm : n ≤ maxLen) (hg : base ≤ g) : Own w base (.slice (some ⟨g, 0, none⟩) n n) l := by
  subst hn
  exact ⟨by simp, .inr ⟨g, l.length, _, rfl, hg, h, Nat.le_refl _, hm, by simp, by simp [List.take_of_length_le]⟩⟩

set_option maxHeartbeats 1000000 in
theorem full_core (A : Option Addr) (m c n : Nat) (l : List UInt8) (w : World) (h : Rd w A m c l) (hn : n ≤ 20000) :
    Calls Tryd.prog 22 #[.slice A m c, .int .i64 n] w fun e w' =>
      e = .returned (.slice (some ⟨w.heap.size, 0, none⟩) n n) ∧ Own w' w.heap.size (.slice (some ⟨w.heap.size, 0, none⟩) n n) (full l n) ∧ Below w.heap.size w w' := by
  have hM := Tryd.prog_make n (by omega)
  have hml := h.1
  by_cases hl : l = []
  · subst hl
    obtain rfl : m = 0 := by simpa using hml
    have hf : full [] n = zs n := by unfold full; rw [if_neg (by omega), if_pos rfl]; simp
    have HF := Lib.hid hf
    clear hf hml
    go_enter Tryd.func22, Tryd.ntmps22
    go_wp2
    refine wp_loop_rounds 1 ?_
    rw [rounds_succ]
    go_wp2
    all_goals
      go_ret
      exact ⟨rfl, by rw [HF.out]; exact Own.made w n (by unfold maxLen; omega), (Below.refl _ _).alloc (Nat.le_refl _) _⟩
  · have hlp : 0 < l.length := List.length_pos_iff.2 hl
    obtain ⟨b, off, rfl, hat⟩ := h.addr (by omega)
    subst hml
    have hf : full l n = fullTo l n n := by unfold full; rw [if_neg (by omega), if_neg hl]; simp
    have HF := Lib.hid hf
    have hlm : l.length ≤ 9223372036854775807 := by have := h.2.2.1; have := h.2.1; unfold maxLen at *; omega
    have hlz : ((l.length : Int) > 0) := by omega
    have hnew := Blk.new w 5 (madeCells #[.int .u8 0] n)
    rw [madeCells_one, ← List.toArray_replicate] at hnew
    have hzs : (List.replicate n (Value.int .u8 0)) = (fullTo l n 0).map B := by rw [fullTo_zero]; unfold zs; simp [B]
    rw [hzs] at hnew
    have Hnew := Lib.hid hnew
    have Hat := Lib.hid hat
    have hbl := hat.1
    clear hf h hl hnew hzs hat
    go_enter Tryd.func22, Tryd.ntmps22
    go_wp2
    go_loopw [6] (fun i wr => ∃ k : Nat, k ≤ n ∧ i = .int .i64 k ∧ Blk wr w.heap.size 5 ((fullTo l n k).map B).toArray ∧ Below w.heap.size w wr) (fun i _ => n - (intOf i).toNat)
    case atStart => exact ⟨0, by omega, rfl, by rw [madeCells_one, ← List.toArray_replicate]; simpa [fullTo_zero, zs, B] using Blk.new w _ _, (Below.refl _ _).alloc (Nat.le_refl _) _⟩
    case round =>
      obtain ⟨k, hk, rfl, hB, hb⟩ := hrel
      by_cases hlt : k < n
      · have hki : (k : Int) < n := by omega
        have hmod : k % l.length < l.length := Nat.mod_lt _ hlp
        have hmi : ((k : Int) % (l.length : Int)) < (l.length : Int) := by omega
        have hm0 : 0 ≤ ((k : Int) % (l.length : Int)) := by omega
        have hc := (Hat.out.keep hb.size (hb.block b hbl)).cell hmod
        have hx0 := hB.cell k
        have hxf := hB.frozen k
        simp [fullTo_len, hlt] at hx0
        unfold B at hc hx0
        have HB := Lib.hid hB
        clear hB
        go_wp2
        go_roundw
        case rel =>
          refine ⟨k + 1, by omega, by go_num, ?_, hb.setCell (Nat.le_refl _) _⟩
          have := HB.out.set_ k (B l[k % l.length])
          rw [setB] at this
          have hg : l.getD (k % l.length) 0 = l[k % l.length] := by simp [List.getD, hmod]
          rw [← hg, fullTo_succ l n k hlt, hg] at this
          exact this
        case measure => simp [intOf]; omega
      · obtain rfl : k = n := by omega
        have hq : ¬ ((k : Int) < k) := by omega
        go_wp2
        go_ret
        exact ⟨rfl, by rw [HF.out]; exact Own.of_blk hB (fullTo_len _ _ _).symm (by unfold maxLen; omega) (Nat.le_refl _), hb⟩
theorem full_any (A : Option Addr) (m c : Nat) (n : Int) (l : List UInt8) (w : World) (h : Rd w A m c l) :
    Calls Tryd.prog 22 #[.slice A m c, .int .i64 n] w fun e w' =>
      ∃ g, e = .returned (.slice (some ⟨g, 0, none⟩) (full l n).length (full l n).length) ∧ Own w' w.heap.size (.slice (some ⟨g, 0, none⟩) (full l n).length (full l n).length) (full l n) ∧ Below w.heap.size w w' := by
  by_cases hn : 0 ≤ n ∧ n ≤ 20000
  · obtain ⟨k, rfl⟩ : ∃ k : Nat, n = k := ⟨n.toNat, by omega⟩
    have hl : (full l k).length = k := by
      unfold full
      rw [if_neg (by omega)]
      split
      · simp [zs_len]
      · simp [fullTo_len]
    rw [hl]
    exact (full_core A m c k l w h (by omega)).mono fun _ _ ⟨h1, h2, h3⟩ => ⟨_, h1, h2, h3⟩
  · have hl : full l n = [] := by unfold full; rw [if_pos (by omega)]
    rw [hl]
    have hM := Tryd.prog_make 0 (by omega)
    rw [show ((0 : Nat) : Int) = 0 from rfl] at hM
    have fin : Own (w.alloc (.cells (madeCells #[.int .u8 0] 0) 5)) w.heap.size (.slice (some ⟨w.heap.size, 0, none⟩) 0 0) [] := Own.made w 0 (by unfold maxLen; omega)
    have fin2 : Below w.heap.size w (w.alloc (.cells (madeCells #[.int .u8 0] 0) 5)) := (Below.refl _ _).alloc (Nat.le_refl _) _
    obtain ⟨h1, h2, h3, h4⟩ := h
    unfold maxLen at h3
    clear hl h4
    rcases Int.lt_or_le n 0 with h0 | h0
    · clear hn
      go_enter Tryd.func22, Tryd.ntmps22
      go_wp2
      refine wp_loop_rounds 1 ?_
      rw [rounds_succ]
      go_wp2
      go_ret
      exact ⟨_, rfl, fin, fin2⟩
    · have h5 : 20000 < n := by omega
      clear hn
      go_enter Tryd.func22, Tryd.ntmps22
      go_wp2
      refine wp_loop_rounds 1 ?_
      rw [rounds_succ]
      go_wp2
      go_ret
      exact ⟨_, rfl, fin, fin2⟩
end Go.Proofs.YtomngfihaohgdaaDoor
