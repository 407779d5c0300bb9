/-
  Contracts of disk.Load and disk.Crash.
-/
import Derived.Test.YtpfijfflfgfojaaDisk6
namespace Go.Proofs.Ytpfijfflfgfojaa
open Go.RowKit

/-- One sector's two byte cells and its mark are stored. -/
theorem DiskAt.both {w : World} {d L i : Nat} {xs : List SecV} {s : Dsk} {x : SecV} {v : Value} {o : Option (List UInt8)} (h : DiskAt w d L xs s) (hx : xs[i]? = some x) (hv : Byt w v o) (ho : ∀ l, o = some l → l.length = 256) :
    DiskAt (((w.setCell ⟨L, i * 3, none⟩ v).setCell ⟨L, i * 3 + 1, none⟩ v).setCell ⟨L, i * 3 + 2, none⟩ (.bool false)) d L (xs.set i (v, v, false)) { s with secs := s.secs.set i ⟨o, o, false⟩ } := by
  have hi : i < xs.length := (List.getElem?_eq_some_iff.1 hx).1
  have ht1 : Turn [L] w (((w.setCell ⟨L, i * 3, none⟩ v).setCell ⟨L, i * 3 + 1, none⟩ v).setCell ⟨L, i * 3 + 2, none⟩ (.bool false)) :=
    (((Turn.refl _ _).setCell (.inl (by simp)) _).setCell (.inl (by simp)) _).setCell (.inl (by simp)) _
  refine h.sec ht1 ?_ (by simp) ⟨by simp [h.2.2.1.1], ?_⟩
  · have hb := ((h.2.1.set_ (i * 3) v).set_ (i * 3 + 1) v).set_ (i * 3 + 2) (.bool false)
    rw [List.setIfInBounds_toArray, List.setIfInBounds_toArray, List.setIfInBounds_toArray, (encS_set xs i x hx v true).1,
      (encS_set _ i (v, x.2) (by simp [hi]) v true).2.1, List.set_set, (encS_set _ i (v, v, x.2.2) (by simp [hi]) v false).2.2, List.set_set] at hb
    exact hb
  · have ne : ∀ {v : Value} {o : Option (List UInt8)}, Byt w v o → ∀ k, v.ownBlock = some k → k ∉ [L] := by
      intro v o hv k hk hm
      simp at hm; subst hm
      exact hv.ne h.2.1 (by decide) hk
    intro j y z hy hz
    rw [List.getElem?_set] at hy hz
    by_cases hj : i = j
    · subst hj
      rw [if_pos rfl, if_pos hi] at hy
      rw [if_pos rfl, if_pos (by rw [← h.2.2.1.1]; exact hi)] at hz
      cases hy
      cases hz
      exact ⟨hv.turn ht1 (ne hv), hv.turn ht1 (ne hv), rfl, ho, ho⟩
    · rw [if_neg hj] at hy hz
      obtain ⟨a, b, c1⟩ := h.2.2.1.2 j y z hy hz
      exact ⟨a.turn ht1 (ne a), b.turn ht1 (ne b), c1⟩

/-! ### Load -/
def pieceAt (l : List UInt8) (k : Nat) : List UInt8 := (l.drop (k * 256)).take 256
def loadTo (l : List UInt8) (n k : Nat) : Dsk := { Dsk.new n with secs := (List.range n).map fun i => if i < k then ⟨some (pieceAt l i), some (pieceAt l i), false⟩ else ⟨none, none, false⟩ }
theorem loadTo_zero (l : List UInt8) (n : Nat) : loadTo l n 0 = Dsk.new n := by
  simp only [loadTo, Dsk.new, Dsk.mk.injEq, and_true, true_and]
  apply List.ext_getElem? ; intro i
  simp [List.getElem?_replicate, List.getElem?_range]
  split <;> simp_all
theorem loadTo_succ (l : List UInt8) (n k : Nat) : { loadTo l n k with secs := (loadTo l n k).secs.set k ⟨some (pieceAt l k), some (pieceAt l k), false⟩ } = loadTo l n (k + 1) := by
  simp only [loadTo, Dsk.mk.injEq, and_true, true_and]
  apply List.ext_getElem? ; intro i
  rw [List.getElem?_set]
  simp only [List.getElem?_map, List.length_map, List.length_range]
  by_cases hk : k = i
  · subst hk
    by_cases hn : k < n
    · simp [hn, List.getElem?_range]
    · simp [hn, List.getElem?_range]
  · by_cases hn : i < n
    · by_cases hl : i < k
      · have : i < k + 1 := by omega
        simp [hk, hn, hl, this, List.getElem?_range]
      · have : ¬ i < k + 1 := by omega
        simp [hk, hn, hl, this, List.getElem?_range]
    · simp [hk, hn, List.getElem?_range]

theorem load_no (A : Option Addr) (n c : Nat) (w : World) (hn : n % 256 ≠ 0 ∨ n / 256 < 1 ∨ 65536 < n / 256) (hm : n ≤ 140737488351232) :
    Calls Try.prog 27 #[.slice A n c] w fun e w' => e = .returned (.pointer none) ∧ Below w.heap.size w w' := by
  by_cases h1 : (n / 256 < 1 ∨ 65536 < n / 256)
  · clear hn
    have hN := Lib.hid (new_out ((n : Int) / 256) (by omega) w)
    clear h1
    go_enter Try.func27, Try.ntmps27
    go_wp2_with (go_at_call 6; refine hN.out.mono ?_; rintro e w' ⟨rfl, rfl⟩)
    go_ret
    exact ⟨rfl, Below.refl _ _⟩
  · have h2 : ((n : Int) % 256 != 0) = true := by simp; omega
    have hN := Lib.hid (new_in (n / 256) (by omega) (by omega) w)
    have e1 : ((n / 256 : Nat) : Int) = (n : Int) / 256 := by omega
    rw [e1] at hN
    clear h1 hn e1
    go_enter Try.func27, Try.ntmps27
    go_wp2_with (go_at_call 6; refine hN.out.mono ?_; rintro e w' ⟨rfl, hA, hb⟩)
    go_ret
    exact ⟨rfl, hb⟩

theorem pieceAt_len (l : List UInt8) (k n : Nat) (h : l.length = n * 256) (hk : k < n) : (pieceAt l k).length = 256 := by
  simp [pieceAt]; omega
set_option maxHeartbeats 2000000 in
theorem load_any (b off n c : Nat) (l : List UInt8) (w : World) (h : At w b off l) (hl : l.length = n * 256) (hc : n * 256 ≤ c) (hcm : c ≤ maxLen) (hn1 : 1 ≤ n) (hn2 : n ≤ 65536) :
    Calls Try.prog 27 #[.slice (some ⟨b, off, none⟩) (n * 256 : Nat) c] w fun e w' =>
      e = .returned (.pointer (some ⟨w.heap.size + 1, 0, none⟩)) ∧ (∃ ys, DiskAt w' (w.heap.size + 1) w.heap.size ys (loadTo l n n)) ∧ Below w.heap.size w w' := by
  have hN := Lib.hid (new_in n hn1 hn2 w)
  have q1 : ((n * 256 : Nat) : Int) / 256 = n := by omega
  have q2 : (((n * 256 : Nat) : Int) % 256 != 0) = false := by simp
  unfold maxLen at hcm
  go_enter Try.func27, Try.ntmps27
  go_wp2_with (go_at_call 6; (try rw [q1]); refine hN.out.mono ?_; rintro e w1 ⟨rfl, hA, hb⟩; have g0 := hA.1.cell 0)
  have hbn := h.keep hb.size (hb.block b h.1)
  have hln : (Dsk.new n).secs.length = n := by simp [Dsk.new]
  simp only [hln]
  clear g0
  have hz : w.heap.size ≤ w1.heap.size := hb.size
  have HH := Lib.hid h
  clear h hbn
  go_loopw [23] (fun i wr => ∃ (k : Nat) (ys : List SecV), k ≤ n ∧ i = .int .i64 k ∧ DiskAt wr (w.heap.size + 1) w.heap.size ys (loadTo l n k) ∧ Below w.heap.size w wr) (fun i _ => n - (intOf i).toNat)
  case atStart => exact ⟨0, _, by omega, rfl, by rw [loadTo_zero]; exact hA, hb⟩
  case round =>
    obtain ⟨k, ys, hk, rfl, hA2, hb2⟩ := hrel
    have hlk := Lib.hid (show (loadTo l n k).secs.length = n by simp [loadTo])
    by_cases hlt : k < n
    · have hki : (k : Int) < n := by omega
      have g0 := hA2.1.cell 0
      simp [hlk.out] at g0
      obtain ⟨x, hx⟩ : ∃ x, ys[k]? = some x := ⟨_, List.getElem?_eq_getElem (by rw [hA2.2.2.1.1, hlk.out]; exact hlt)⟩
      have hat := ((HH.out.keep hb2.size (hb2.block b HH.out.1)).drop (k * 256)).take 256
      have hC := Lib.hid (clone_any b (off + k * 256) 256 (c - k * 256) (pieceAt l k) wr hat (pieceAt_len l k n hl hlt).symm (by omega))
      have HA := Lib.hid hA2
      have HX := Lib.hid hx
      clear hA2 hx hat hA hN hb
      go_wp2_with (go_at_call 28; rw [show (k + 1) * 256 - k * 256 = 256 from by omega]; refine hC.out.mono ?_; rintro e w2 ⟨g, c', rfl, ho, hb3⟩; have g1 := (HA.out.below hb3).1.cell 0; simp [hlk.out] at g1; have s0 := (HA.out.below hb3).2.1.cell (k * 3); rw [List.getElem?_toArray, (encS_get ys k x HX.out).1] at s0; have s1 := (HA.out.below hb3).2.1.cell (k * 3 + 1); rw [List.getElem?_toArray, (encS_get ys k x HX.out).2.1] at s1; have s2 := (HA.out.below hb3).2.1.cell (k * 3 + 2); rw [List.getElem?_toArray, (encS_get ys k x HX.out).2.2] at s2; have f0 := (HA.out.below hb3).2.1.frozen (k * 3); have f1 := (HA.out.below hb3).2.1.frozen (k * 3 + 1); have f2 := (HA.out.below hb3).2.1.frozen (k * 3 + 2))
      go_roundw
      case rel =>
        have hB := (HA.out.below hb3).both HX.out (v := .slice (some ⟨g, 0, none⟩) 256 c') (o := some (pieceAt l k)) ⟨ho.mono (Nat.zero_le _), slice_ne_nil _ _ _⟩ (fun l' e => by cases e; exact pieceAt_len l k n hl hlt)
        rw [loadTo_succ] at hB
        exact ⟨k + 1, _, by omega, by go_num, hB, (((hb2.trans (hb3.mono hb2.size)).setCell (Nat.le_refl _) _).setCell (Nat.le_refl _) _).setCell (Nat.le_refl _) _⟩
      case measure => simp [intOf]; omega
    · obtain rfl : k = n := by omega
      have hq : ¬ ((k : Int) < k) := by omega
      have HA := Lib.hid hA2
      clear hA2 hlt hlk
      go_wp2
      go_ret
      exact ⟨rfl, ⟨_, HA.out⟩, hb2⟩
end Go.Proofs.Ytpfijfflfgfojaa
