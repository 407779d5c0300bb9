/-
  Contracts of disk.Write, Sync.
-/
import Derived.Test.YtomngfihaohgdaaDoorDisk3
import Derived.StillTailTactics
import Derived.Deep.RegionHeld3
namespace Go.Proofs.YtomngfihaohgdaaDoor
open Go.RowKit

/-- The sectors' block alone has turned. -/
theorem DiskAt.sec {w w' : World} {d L : Nat} {xs ys : List SecV} {s : Dsk} {ss : List Sec} (h : DiskAt w d L xs s) (ht : Turn [L] w w') (hb : Blk w' L 69 (encS ys).toArray) (hl : ss.length = s.secs.length)
    (hy : SecsOk w' ys ss) : DiskAt w' d L ys { s with secs := ss } := by
  obtain ⟨h1, h2, h3, h4, h5⟩ := h
  have hne : d ≠ L := h1.ne_ h2 (by decide)
  refine ⟨?_, hb, hy, by simp only [hl]; exact h4, by simp only [hl]; exact h5⟩
  simp only [hl]
  exact h1.turn ht (by simpa using hne)

/-- A sector is written. -/
def Sec.put (l : List UInt8) (x : Sec) : Sec := { x with now := some l, dirty := true }
def Dsk.put (s : Dsk) (i : Nat) (l : List UInt8) : Dsk := { s with secs := s.secs.modify i (Sec.put l) }

/-- What the two stores leave. -/
theorem DiskAt.put {w w1 : World} {d L i g c : Nat} {xs : List SecV} {s : Dsk} {l : List UInt8} {x : SecV} (h : DiskAt w d L xs s) (hbel : Below w.heap.size w w1) (hx : xs[i]? = some x)
    (hown : Own w1 w.heap.size (.slice (some ⟨g, 0, none⟩) 256 c) l) (hl : l.length = 256) :
    DiskAt ((w1.setCell ⟨L, i * 3, none⟩ (.slice (some ⟨g, 0, none⟩) 256 c)).setCell ⟨L, i * 3 + 2, none⟩ (.bool true)) d L (xs.set i (.slice (some ⟨g, 0, none⟩) 256 c, x.2.1, true)) (s.put i l) := by
  have hi : i < xs.length := (List.getElem?_eq_some_iff.1 hx).1
  have ht1 : Turn [L] w1 ((w1.setCell ⟨L, i * 3, none⟩ (.slice (some ⟨g, 0, none⟩) 256 c)).setCell ⟨L, i * 3 + 2, none⟩ (.bool true)) :=
    ((Turn.refl _ _).setCell (.inl (by simp)) _).setCell (.inl (by simp)) _
  have h' := h.below hbel
  refine h'.sec ht1 ?_ (by simp) ⟨by simp [h.2.2.1.1], ?_⟩
  · have hb := (h'.2.1.set_ (i * 3) (.slice (some ⟨g, 0, none⟩) 256 c)).set_ (i * 3 + 2) (.bool true)
    rw [List.setIfInBounds_toArray, List.setIfInBounds_toArray, (encS_set xs i x hx _ true).1,
      (encS_set _ i (.slice (some ⟨g, 0, none⟩) 256 c, x.2) (by simp [hi]) (.bool true) true).2.2, List.set_set] at hb
    exact hb
  · have ne : ∀ {v : Value} {o : Option (List UInt8)}, Byt w1 v o → ∀ k, v.ownBlock = some k → k ∉ [L] := by
      intro v o hv k hk hm
      simp at hm; subst hm
      exact hv.ne h'.2.1 (by decide) hk
    intro j y z hy hz
    simp only [List.getElem?_modify] at hz
    rw [List.getElem?_set] at hy
    by_cases hj : i = j
    · subst hj
      rw [if_pos rfl, if_pos hi] at hy
      cases hy
      cases hs : s.secs[i]? with
      | none => rw [hs] at hz; cases hz
      | some z0 =>
        rw [hs] at hz
        cases hz
        obtain ⟨a, b, c1, c2, c3⟩ := h'.2.2.1.2 i x z0 hx hs
        have hn : Byt w1 (.slice (some ⟨g, 0, none⟩) 256 c) (some l) := ⟨hown.mono (Nat.zero_le _), slice_ne_nil _ _ _⟩
        simp only [if_true, Sec.put]
        exact ⟨hn.turn ht1 (ne hn), b.turn ht1 (ne b), by simp, fun l' e => by cases e; exact hl, c3⟩
    · rw [if_neg hj] at hy
      simp only [if_neg hj, Option.map_eq_map, Option.map_id'] at hz
      obtain ⟨a, b, c1⟩ := h'.2.2.1.2 j y z hy (by simpa using hz)
      exact ⟨a.turn ht1 (ne a), b.turn ht1 (ne b), c1⟩

set_option maxHeartbeats 1000000 in
theorem write_in (d L : Nat) (xs : List SecV) (s : Dsk) (w : World) (h : DiskAt w d L xs s) (hdead : s.dead = false) (i : Nat) (hi : i < s.secs.length) (b off c : Nat) (l : List UInt8) (hb : At w b off l) (hl : l.length = 256)
    (hc : s.count < 1000000) (hf : s.fused = true → 1 ≤ s.left ∧ s.left ≤ 9223372036854775807) :
    Calls Tryd.prog 42 #[.pointer (some ⟨d, 0, none⟩), .int .i64 i, .slice (some ⟨b, off, none⟩) 256 c] w fun e w' =>
      e = .returned (.bool true) ∧ (∃ ys, DiskAt w' d L ys (s.put i l).done) ∧ Turn [d, L] w w' := by
  have h0 := h.1.cell 0
  simp at h0
  have hD := dead_any d L xs s w h
  rw [hdead] at hD
  obtain ⟨x, hx⟩ : ∃ x, xs[i]? = some x := ⟨_, List.getElem?_eq_getElem (by rw [h.2.2.1.1]; exact hi)⟩
  have h1 := h.2.1.cell (i * 3)
  rw [List.getElem?_toArray, (encS_get xs i x hx).1] at h1
  have h2 := h.2.1.cell (i * 3 + 2)
  rw [List.getElem?_toArray, (encS_get xs i x hx).2.2] at h2
  have f1 := h.2.1.frozen (i * 3)
  have f2 := h.2.1.frozen (i * 3 + 2)
  have hlen := h.2.2.2.2
  have hdL : d ≠ L := h.1.ne_ h.2.1 (by decide)
  have hii : (i : Int) < s.secs.length := by omega
  have h00 : (0 : Int) ≤ i := by omega
  have H := Lib.hid hx
  have HF := Lib.hid hf
  clear hx hf hdead
  go_enter Tryd.func42, Tryd.ntmps42
  go_wp2_with (go_at_call 37; refine hD.mono ?_; rintro e w' ⟨rfl, rfl⟩)
  go_region_held3 (fun w' => w'.cell? ⟨d, 0, none⟩ = some (.slice (some ⟨L, 0, none⟩) s.secs.length s.secs.length)) (first | go_keep | (exact g0) | (rw [cell_far _ _ _ _ hdL]; exact g0) | (rw [cell_far _ _ _ _ hdL, cell_far _ _ _ _ hdL]; exact g0))
    ((go_at_call 47; refine (clone_any b off 256 c l w.drew hb hl.symm (by omega)).mono ?_; rintro e w1 ⟨g, c', rfl, hown, hbd⟩; have hbel : Below w.heap.size w w1 := (Below.refl _ w).drew.trans hbd; clear hbd; have g0 := (hbel.cell (p := ⟨d, 0, none⟩) h.1.lt).trans h0; have g1 := (hbel.cell (p := ⟨L, i * 3, none⟩) h.2.1.lt).trans h1; have g2 := (hbel.cell (p := ⟨L, i * 3 + 2, none⟩) h.2.1.lt).trans h2; have k1 := (hbel.frozen (p := ⟨L, i * 3, none⟩) h.2.1.lt).trans f1; have k2 := (hbel.frozen (p := ⟨L, i * 3 + 2, none⟩) h.2.1.lt).trans f2))
  have hP := h.put hbel H.out hown hl
  have hT : Turn [d, L] w ((w1.setCell ⟨L, i * 3, none⟩ (.slice (some ⟨g, 0, none⟩) 256 c')).setCell ⟨L, i * 3 + 2, none⟩ (.bool true)) :=
    ((Turn.of_below _ hbel).setCell (.inl (by simp)) _).setCell (.inl (by simp)) _
  have HD := Lib.hid (done_any d L _ _ _ hP hc HF.out)
  clear h h0 h1 h2 f1 f2 hD g0 g1 g2 k1 k2 hP hown hb
  go_wp2_with (go_at_call 43; refine HD.out.mono ?_; rintro e w' ⟨rfl, hA, hB⟩)
  go_ret
  exact ⟨rfl, ⟨_, hA⟩, hT.trans hB (fun x hx => .inl (by simp at hx; simp [hx]))⟩
end Go.Proofs.YtomngfihaohgdaaDoor
