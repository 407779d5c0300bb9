/-
  Contracts of disk.New, Write, Sync.
-/
import Derived.Test.YtgjnmpjimhbfgaaGreatDoorZzFull
import Derived.StillTailTactics
import Derived.Deep.RegionHeld3
namespace Go.Proofs.YtgjnmpjimhbfgaaGreatDoor
set_option maxRecDepth 100000
open Go.RowKit
theorem Tryz.infoSec : (Tryz.prog.info? 99).map (fun i => (i.zero, i.size, i.bytes)) = some (some (.agg #[.slice none 0 0, .slice none 0 0, .bool false]), 3, 56) := by kernel_rfl
theorem madeSecs (n : Nat) : madeCells #[.slice none 0 0, .slice none 0 0, .bool false] (n * 3) = (encS (List.replicate n (.slice none 0 0, .slice none 0 0, false))).toArray := by
 apply Array.ext'
 unfold madeCells
 rw [Array.toList_map, Array.toList_range]
 induction n with
 | zero => rfl
 | succ n ih =>
  have e : (n + 1) * 3 = n * 3 + 1 + 1 + 1 := by omega
  rw [e, List.range_succ, List.range_succ, List.range_succ, List.map_append, List.map_append, List.map_append, ih, List.replicate_succ']
  have e0 : (n * 3) % 3 = 0 := by omega
  have e1 : (n * 3 + 1) % 3 = 1 := by omega
  have e2 : (n * 3 + 1 + 1) % 3 = 2 := by omega
  simp [encS, e0, e1, e2]
theorem Tryz.makeSecs (n : Nat) (hn : n ≤ 65536) (w : World) : (Instr.makeSlice 68 (.int .i64 (n : Int)) (.int .i64 (n : Int))).run Tryz.prog w =
  .ok (.slice (some ⟨w.heap.size, 0, none⟩) n n) (w.alloc (.cells (encS (List.replicate n (.slice none 0 0, .slice none 0 0, false))).toArray 99)) := by
 obtain ⟨i0, hi, hz0, hz1, hz2⟩ := info_parts Tryz.infoSec
 have hr := run_make (P := Tryz.prog) w 68 99 i0 _ Tryz.underlying68 hi hz0 .i64 .i64 n n (by omega) (by omega) (by rw [hz2]; omega) (by omega)
 simp only [Int.toNat_natCast, hz1, Value.cells] at hr
 rw [madeSecs] at hr
 exact hr
def Dsk.new (n : Nat) : Dsk := { secs := List.replicate n ⟨none, none, false⟩, fused := false, left := 0, dead := false, count := 0 }
theorem new_in (n : Nat) (h0 : 1 ≤ n) (h1 : n ≤ 65536) (w : World) : Calls Tryz.prog 11 #[.int .i64 n] w fun e w' =>
  e = .returned (.pointer (some ⟨w.heap.size + 1, 0, none⟩)) ∧ DiskAt w' (w.heap.size + 1) w.heap.size (List.replicate n (.slice none 0 0, .slice none 0 0, false)) (Dsk.new n) ∧ Below w.heap.size w w' := by
 have hM := Tryz.makeSecs n h1
 go_enter Tryz.func11, Tryz.ntmps11
 go_wp2
 go_ret
 refine ⟨rfl, ⟨?_, ?_, ⟨by simp [Dsk.new], ?_⟩, by simp [Dsk.new]; omega, by simp [Dsk.new]; omega⟩, ((Below.refl _ _).alloc (Nat.le_refl _) _).alloc (by simp) _⟩
 ·have := Blk.new (w.alloc (.cells (encS (List.replicate n (.slice none 0 0, .slice none 0 0, false))).toArray 99)) 70 #[.slice (some ⟨w.heap.size, 0, none⟩) n n, .bool false, .int .i64 0, .bool false, .int .i64 0]
  simpa [Dsk.new] using this
 ·exact (Blk.new w _ _).alloc _
 ·intro i x s hx hs
  simp [Dsk.new, List.getElem?_replicate] at hx hs
  obtain ⟨_, rfl⟩ := hx
  obtain ⟨_, rfl⟩ := hs
  exact ⟨rfl, rfl, rfl, (fun l h => by cases h), (fun l h => by cases h)⟩
theorem DiskAt.sec {w w' : World} {d L : Nat} {xs ys : List SecV} {s : Dsk} {ss : List Sec} (h : DiskAt w d L xs s) (ht : Turn [L] w w') (hb : Blk w' L 99 (encS ys).toArray) (hl : ss.length = s.secs.length)
  (hy : SecsOk w' ys ss) : DiskAt w' d L ys { s with secs := ss } := by
 obtain ⟨h1, h2, h3, h4, h5⟩ := h
 have hne : d ≠ L := h1.ne_ h2 (by decide)
 refine ⟨?_, hb, hy, by simp only [hl]; exact h4, by simp only [hl]; exact h5⟩
 simp only [hl]
 exact h1.turn ht (by simpa using hne)
def Sec.put (l : List UInt8) (x : Sec) : Sec := { x with now := some l, dirty := true }
def Dsk.put (s : Dsk) (i : Nat) (l : List UInt8) : Dsk := { s with secs := s.secs.modify i (Sec.put l) }
theorem DiskAt.put {w w1 : World} {d L i g c : Nat} {xs : List SecV} {s : Dsk} {l : List UInt8} {x : SecV} (h : DiskAt w d L xs s) (hbel : Below w.heap.size w w1) (hx : xs[i]? = some x)
  (hown : Own w1 w.heap.size (.slice (some ⟨g, 0, none⟩) 256 c) l) (hl : l.length = 256) :
  DiskAt ((w1.setCell ⟨L, i * 3, none⟩ (.slice (some ⟨g, 0, none⟩) 256 c)).setCell ⟨L, i * 3 + 2, none⟩ (.bool true)) d L (xs.set i (.slice (some ⟨g, 0, none⟩) 256 c, x.2.1, true)) (s.put i l) := by
 have hi : i < xs.length := (List.getElem?_eq_some_iff.1 hx).1
 have ht1 : Turn [L] w1 ((w1.setCell ⟨L, i * 3, none⟩ (.slice (some ⟨g, 0, none⟩) 256 c)).setCell ⟨L, i * 3 + 2, none⟩ (.bool true)) :=
  ((Turn.refl _ _).setCell (.inl (by simp)) _).setCell (.inl (by simp)) _
 have h' := h.below hbel
 refine h'.sec ht1 ?_ (by simp) ⟨by simp [h.2.2.1.1], ?_⟩
 ·have hb := (h'.2.1.set_ (i * 3) (.slice (some ⟨g, 0, none⟩) 256 c)).set_ (i * 3 + 2) (.bool true)
  rw [List.setIfInBounds_toArray, List.setIfInBounds_toArray, (encS_set xs i x hx _ true).1,
   (encS_set _ i (.slice (some ⟨g, 0, none⟩) 256 c, x.2) (by simp [hi]) (.bool true) true).2.2, List.set_set] at hb
  exact hb
 ·have ne : ∀ {v : Value} {o : Option (List UInt8)}, Byt w1 v o → ∀ k, v.ownBlock = some k → k ∉ [L] := by
   intro v o hv k hk hm
   simp at hm; subst hm
   exact hv.ne h'.2.1 (by decide) hk
  intro j y z hy hz
  simp only [List.getElem?_modify] at hz
  rw [List.getElem?_set] at hy
  by_cases hj : i = j
  ·subst hj
   rw [if_pos rfl, if_pos hi] at hy
   cases hy
   cases hs : s.secs[i]? with
   | none => rw [hs] at hz; cases hz
   | some z0 =>
    rw [hs] at hz
    cases hz
    obtain ⟨a, b, c1, c2, c3⟩ := h'.2.2.1.2 i x z0 hx hs
    have hn : Byt w1 (.slice (some ⟨g, 0, none⟩) 256 c) (some l) := ⟨hown.mono (Nat.zero_le _), slice_ne_nil _ _ _⟩
    simp only [if_true, Sec.put]
    exact ⟨hn.turn ht1 (ne hn), b.turn ht1 (ne b), by simp, fun l' e => by cases e; exact hl, c3⟩
  ·rw [if_neg hj] at hy
   simp only [if_neg hj, Option.map_eq_map, Option.map_id'] at hz
   obtain ⟨a, b, c1⟩ := h'.2.2.1.2 j y z hy (by simpa using hz)
   exact ⟨a.turn ht1 (ne a), b.turn ht1 (ne b), c1⟩
set_option maxHeartbeats 1000000 in
theorem write_in (d L : Nat) (xs : List SecV) (s : Dsk) (w : World) (h : DiskAt w d L xs s) (hdead : s.dead = false) (i : Nat) (hi : i < s.secs.length) (b off c : Nat) (l : List UInt8) (hb : At w b off l) (hl : l.length = 256)
  (hc : s.count < 1000000) (hf : s.fused = true → 1 ≤ s.left ∧ s.left ≤ 9223372036854775807) :
  Calls Tryz.prog 85 #[.pointer (some ⟨d, 0, none⟩), .int .i64 i, .slice (some ⟨b, off, none⟩) 256 c] w fun e w' =>
   e = .returned (.bool true) ∧ (∃ ys, DiskAt w' d L ys (s.put i l).done) ∧ Turn [d, L] w w' := by
 have h0 := h.1.cell 0
 simp at h0
 have hD := dead_any d L xs s w h
 rw [hdead] at hD
 obtain ⟨x, hx⟩ : ∃ x, xs[i]? = some x := ⟨_, List.getElem?_eq_getElem (by rw [h.2.2.1.1]; exact hi)⟩
 have h1 := h.2.1.cell (i * 3)
 rw [List.getElem?_toArray, (encS_get xs i x hx).1] at h1
 have h2 := h.2.1.cell (i * 3 + 2)
 rw [List.getElem?_toArray, (encS_get xs i x hx).2.2] at h2
 have f1 := h.2.1.frozen (i * 3)
 have f2 := h.2.1.frozen (i * 3 + 2)
 have hlen := h.2.2.2.2
 have hdL : d ≠ L := h.1.ne_ h.2.1 (by decide)
 have hii : (i : Int) < s.secs.length := by omega
 have h00 : (0 : Int) ≤ i := by omega
 have H := Lib.hid hx
 have HF := Lib.hid hf
 clear hx hf hdead
 go_enter Tryz.func85, Tryz.ntmps85
 go_wp2_with (go_at_call 57; refine hD.mono ?_; rintro e w' ⟨rfl, rfl⟩)
 go_region_held3 (fun w' => w'.cell? ⟨d, 0, none⟩ = some (.slice (some ⟨L, 0, none⟩) s.secs.length s.secs.length)) (first | go_keep | (exact g0) | (rw [cell_far _ _ _ _ hdL]; exact g0) | (rw [cell_far _ _ _ _ hdL, cell_far _ _ _ _ hdL]; exact g0))
  ((go_at_call 43; refine (clone_any b off 256 c l w.drew hb hl.symm (by omega)).mono ?_; rintro e w1 ⟨g, c', rfl, hown, hbd⟩; have hbel : Below w.heap.size w w1 := (Below.refl _ w).drew.trans hbd; clear hbd; have g0 := (hbel.cell (p := ⟨d, 0, none⟩) h.1.lt).trans h0; have g1 := (hbel.cell (p := ⟨L, i * 3, none⟩) h.2.1.lt).trans h1; have g2 := (hbel.cell (p := ⟨L, i * 3 + 2, none⟩) h.2.1.lt).trans h2; have k1 := (hbel.frozen (p := ⟨L, i * 3, none⟩) h.2.1.lt).trans f1; have k2 := (hbel.frozen (p := ⟨L, i * 3 + 2, none⟩) h.2.1.lt).trans f2))
 have hP := h.put hbel H.out hown hl
 have hT : Turn [d, L] w ((w1.setCell ⟨L, i * 3, none⟩ (.slice (some ⟨g, 0, none⟩) 256 c')).setCell ⟨L, i * 3 + 2, none⟩ (.bool true)) :=
  ((Turn.of_below _ hbel).setCell (.inl (by simp)) _).setCell (.inl (by simp)) _
 have HD := Lib.hid (done_any d L _ _ _ hP hc HF.out)
 clear h h0 h1 h2 f1 f2 hD g0 g1 g2 k1 k2 hP hown hb
 go_wp2_with (go_at_call 86; refine HD.out.mono ?_; rintro e w' ⟨rfl, hA, hB⟩)
 go_ret
 exact ⟨rfl, ⟨_, hA⟩, hT.trans hB (fun x hx => .inl (by simp at hx; simp [hx]))⟩
theorem write_no (d L : Nat) (xs : List SecV) (s : Dsk) (i : Int) (A : Option Addr) (n c : Nat) (w : World) (h : DiskAt w d L xs s) (hn : s.dead = true ∨ i < 0 ∨ (s.secs.length : Int) ≤ i ∨ n ≠ 256) :
  Calls Tryz.prog 85 #[.pointer (some ⟨d, 0, none⟩), .int .i64 i, .slice A n c] w fun e w' => e = .returned (.bool false) ∧ w = w' := by
 have h0 := h.1.cell 0
 simp at h0
 have hD := dead_any d L xs s w h
 clear h
 cases hd : s.dead with
 | true =>
  rw [hd] at hD
  clear hn hd
  go_enter Tryz.func85, Tryz.ntmps85
  go_wp2_with (go_at_call 57; refine hD.mono ?_; rintro e w' ⟨rfl, rfl⟩)
  go_ret
  exact ⟨rfl, rfl⟩
 | false =>
  rw [hd] at hD hn
  clear hd
  simp only [Bool.false_eq_true, false_or] at hn
  rcases Int.lt_or_le i 0 with g0 | g0
  ·clear hn
   go_enter Tryz.func85, Tryz.ntmps85
   go_wp2_with (go_at_call 57; refine hD.mono ?_; rintro e w' ⟨rfl, rfl⟩)
   go_ret
   exact ⟨rfl, rfl⟩
  ·rcases Int.lt_or_le i s.secs.length with g1 | g1
   ·have g2 : n ≠ 256 := by omega
    clear hn
    have g3 : ((n : Int) != 256) = true := by simp; omega
    clear g2
    go_enter Tryz.func85, Tryz.ntmps85
    go_wp2_with (go_at_call 57; refine hD.mono ?_; rintro e w' ⟨rfl, rfl⟩)
    go_ret
    exact ⟨rfl, rfl⟩
   ·clear hn
    go_enter Tryz.func85, Tryz.ntmps85
    go_wp2_with (go_at_call 57; refine hD.mono ?_; rintro e w' ⟨rfl, rfl⟩)
    go_ret
    exact ⟨rfl, rfl⟩
def Sec.sync (x : Sec) : Sec := { x with syn := x.now, dirty := false }
def Dsk.syncTo (s : Dsk) (k : Nat) : Dsk := { s with secs := s.secs.mapIdx fun i x => if i < k then x.sync else x }
theorem Dsk.syncTo_zero (s : Dsk) : s.syncTo 0 = s := by
 cases s
 simp only [Dsk.syncTo, Dsk.mk.injEq, and_true]
 apply List.ext_getElem?
 intro i
 simp
theorem Dsk.syncTo_all (s : Dsk) : s.syncTo s.secs.length = { s with secs := s.secs.map Sec.sync } := by
 simp only [Dsk.syncTo, Dsk.mk.injEq, and_true]
 apply List.ext_getElem?
 intro i
 simp only [List.getElem?_mapIdx, List.getElem?_map]
 cases h : s.secs[i]? with
 | none => rfl
 | some x => simp [(List.getElem?_eq_some_iff.1 h).1]
theorem Dsk.syncTo_succ (s : Dsk) (k : Nat) : { s.syncTo k with secs := (s.syncTo k).secs.modify k Sec.sync } = s.syncTo (k + 1) := by
 simp only [Dsk.syncTo, Dsk.mk.injEq, and_true]
 apply List.ext_getElem?
 intro i
 simp only [List.getElem?_modify, List.getElem?_mapIdx]
 cases h : s.secs[i]? with
 | none => simp
 | some x =>
  by_cases hk : k = i
  ·subst hk; simp
  ·by_cases hl : i < k
   ·have : i < k + 1 := by omega
    simp [hk, hl, this]
   ·have : ¬ i < k + 1 := by omega
    simp [hk, hl, this]
theorem DiskAt.syn {w : World} {d L i : Nat} {xs : List SecV} {s : Dsk} {x : SecV} (h : DiskAt w d L xs s) (hx : xs[i]? = some x) :
  DiskAt ((w.setCell ⟨L, i * 3 + 1, none⟩ x.1).setCell ⟨L, i * 3 + 2, none⟩ (.bool false)) d L (xs.set i (x.1, x.1, false)) { s with secs := s.secs.modify i Sec.sync } := by
 have hi : i < xs.length := (List.getElem?_eq_some_iff.1 hx).1
 have ht1 : Turn [L] w ((w.setCell ⟨L, i * 3 + 1, none⟩ x.1).setCell ⟨L, i * 3 + 2, none⟩ (.bool false)) :=
  ((Turn.refl _ _).setCell (.inl (by simp)) _).setCell (.inl (by simp)) _
 refine h.sec ht1 ?_ (by simp) ⟨by simp [h.2.2.1.1], ?_⟩
 ·have hb := (h.2.1.set_ (i * 3 + 1) x.1).set_ (i * 3 + 2) (.bool false)
  rw [List.setIfInBounds_toArray, List.setIfInBounds_toArray, (encS_set xs i x hx x.1 true).2.1,
   (encS_set _ i (x.1, x.1, x.2.2) (by simp [hi]) (.bool false) false).2.2, List.set_set] at hb
  exact hb
 ·have ne : ∀ {v : Value} {o : Option (List UInt8)}, Byt w v o → ∀ k, v.ownBlock = some k → k ∉ [L] := by
   intro v o hv k hk hm
   simp at hm; subst hm
   exact hv.ne h.2.1 (by decide) hk
  intro j y z hy hz
  simp only [List.getElem?_modify] at hz
  rw [List.getElem?_set] at hy
  by_cases hj : i = j
  ·subst hj
   rw [if_pos rfl, if_pos hi] at hy
   cases hy
   cases hs : s.secs[i]? with
   | none => rw [hs] at hz; cases hz
   | some z0 =>
    rw [hs] at hz
    cases hz
    obtain ⟨a, b, c1, c2, c3⟩ := h.2.2.1.2 i x z0 hx hs
    simp only [if_true, Sec.sync]
    exact ⟨a.turn ht1 (ne a), a.turn ht1 (ne a), by simp, c2, c2⟩
  ·rw [if_neg hj] at hy
   simp only [if_neg hj, Option.map_eq_map, Option.map_id'] at hz
   obtain ⟨a, b, c1⟩ := h.2.2.1.2 j y z hy (by simpa using hz)
   exact ⟨a.turn ht1 (ne a), b.turn ht1 (ne b), c1⟩
theorem sync_dead (d L : Nat) (xs : List SecV) (s : Dsk) (w : World) (h : DiskAt w d L xs s) (hd : s.dead = true) : Calls Tryz.prog 60 #[.pointer (some ⟨d, 0, none⟩)] w fun e w' => e = .returned (.bool false) ∧ w = w' := by
 have hD := dead_any d L xs s w h
 rw [hd] at hD
 clear h hd
 go_enter Tryz.func60, Tryz.ntmps60
 go_wp2_with (go_at_call 57; refine hD.mono ?_; rintro e w' ⟨rfl, rfl⟩)
 go_ret
 exact ⟨rfl, rfl⟩
set_option maxHeartbeats 2000000 in
theorem sync_any (d L : Nat) (xs : List SecV) (s : Dsk) (w : World) (h : DiskAt w d L xs s) (hdead : s.dead = false)
  (hc : s.count < 1000000) (hf : s.fused = true → 1 ≤ s.left ∧ s.left ≤ 9223372036854775807) :
  Calls Tryz.prog 60 #[.pointer (some ⟨d, 0, none⟩)] w fun e w' =>
   e = .returned (.bool true) ∧ (∃ ys, DiskAt w' d L ys (Dsk.done { s with secs := s.secs.map Sec.sync })) ∧ Turn [d, L] w w' := by
 have h0 := h.1.cell 0
 simp at h0
 have hD := dead_any d L xs s w h
 rw [hdead] at hD
 have hlen := h.2.2.2.2
 have HF := Lib.hid hf
 clear hf hdead
 go_enter Tryz.func60, Tryz.ntmps60
 go_wp2_with (go_at_call 57; refine hD.mono ?_; rintro e w' ⟨rfl, rfl⟩)
 clear h0
 go_loopw [11] (fun i wr => ∃ (k : Nat) (ys : List SecV), k ≤ s.secs.length ∧ i = .int .i64 k ∧ DiskAt wr d L ys (s.syncTo k) ∧ Turn [L] w wr) (fun i _ => s.secs.length - (intOf i).toNat)
 case atStart => exact ⟨0, xs, by omega, rfl, by rw [Dsk.syncTo_zero]; exact h, Turn.refl _ _⟩
 case round =>
  obtain ⟨k, ys, hk, rfl, hA, hT⟩ := hrel
  have hlk : (s.syncTo k).secs.length = s.secs.length := by simp [Dsk.syncTo]
  have g0 := hA.1.cell 0
  simp [hlk] at g0
  by_cases hlt : k < s.secs.length
  ·obtain ⟨x, hx⟩ : ∃ x, ys[k]? = some x := ⟨_, List.getElem?_eq_getElem (by rw [hA.2.2.1.1, hlk]; exact hlt)⟩
   have h1 := hA.2.1.cell (k * 3)
   rw [List.getElem?_toArray, (encS_get ys k x hx).1] at h1
   have h2 := hA.2.1.cell (k * 3 + 1)
   rw [List.getElem?_toArray, (encS_get ys k x hx).2.1] at h2
   have h3 := hA.2.1.cell (k * 3 + 2)
   rw [List.getElem?_toArray, (encS_get ys k x hx).2.2] at h3
   have f2 := hA.2.1.frozen (k * 3 + 1)
   have f3 := hA.2.1.frozen (k * 3 + 2)
   have hP := hA.syn hx
   rw [Dsk.syncTo_succ] at hP
   have hdL : d ≠ L := hA.1.ne_ hA.2.1 (by decide)
   obtain ⟨A, n, c, hxs⟩ : ∃ A n c, x.1 = .slice A n c := by
    obtain ⟨z, hz⟩ : ∃ z, (s.syncTo k).secs[k]? = some z := ⟨_, List.getElem?_eq_getElem (by rw [hlk]; exact hlt)⟩
    exact (hA.2.2.1.2 k x z hx hz).1.slice
   rw [hxs] at h1 hP
   have hki : (k : Int) < s.secs.length := by omega
   have hk0 : (0 : Int) ≤ k := by omega
   have hT2 := (hT.setCell (p := ⟨L, k * 3 + 1, none⟩) (.inl (by simp)) (.slice A n c)).setCell (p := ⟨L, k * 3 + 2, none⟩) (.inl (by simp)) (.bool false)
   clear hA hx hxs hT hlk h hD
   have HP := Lib.hid hP
   have e1 := fun (w : World) (v : Value) => cell_off w (L := L) (k * 3 + 1) (k * 3) v (by omega)
   have e2 := fun (w : World) (v : Value) => cell_off w (L := L) (k * 3 + 2) (k * 3) v (by omega)
   have e3 := fun (w : World) (i j : Nat) (v : Value) => cell_far w i j v hdL
   clear hP
   go_wp2
   go_region_held3 (fun w' => w'.cell? ⟨d, 0, none⟩ = some (.slice (some ⟨L, 0, none⟩) s.secs.length s.secs.length) ∧ w'.cell? ⟨L, k * 3, none⟩ = some (.slice A n c)) (go_keep) (first | fail)
   have HT := Lib.hid hT2
   clear hT2 e1 e2 e3 h1 h2 h3 f2 f3 g0
   go_wp2
   go_roundw
   case rel => exact ⟨k + 1, _, by omega, by go_num, HP.out, HT.out.drew⟩
   case measure => simp [intOf]; omega
  ·obtain rfl : k = s.secs.length := by omega
   rw [Dsk.syncTo_all] at hA
   have hq : ¬ ((s.secs.length : Int) < s.secs.length) := by omega
   clear hlt h hD
   have HD := Lib.hid (done_any d L _ _ _ hA hc HF.out)
   clear hA g0 hlk
   go_wp2_with (go_at_call 86; refine HD.out.mono ?_; rintro e w' ⟨rfl, hA2, hB⟩)
   go_ret
   exact ⟨rfl, ⟨_, hA2⟩, (hT.more (by simp)).trans hB (fun x hx => .inl (by simp at hx; simp [hx]))⟩
theorem DiskAt.both {w : World} {d L i : Nat} {xs : List SecV} {s : Dsk} {x : SecV} {v : Value} {o : Option (List UInt8)} (h : DiskAt w d L xs s) (hx : xs[i]? = some x) (hv : Byt w v o) (ho : ∀ l, o = some l → l.length = 256) :
  DiskAt (((w.setCell ⟨L, i * 3, none⟩ v).setCell ⟨L, i * 3 + 1, none⟩ v).setCell ⟨L, i * 3 + 2, none⟩ (.bool false)) d L (xs.set i (v, v, false)) { s with secs := s.secs.set i ⟨o, o, false⟩ } := by
 have hi : i < xs.length := (List.getElem?_eq_some_iff.1 hx).1
 have ht1 : Turn [L] w (((w.setCell ⟨L, i * 3, none⟩ v).setCell ⟨L, i * 3 + 1, none⟩ v).setCell ⟨L, i * 3 + 2, none⟩ (.bool false)) :=
  (((Turn.refl _ _).setCell (.inl (by simp)) _).setCell (.inl (by simp)) _).setCell (.inl (by simp)) _
 refine h.sec ht1 ?_ (by simp) ⟨by simp [h.2.2.1.1], ?_⟩
 ·have hb := ((h.2.1.set_ (i * 3) v).set_ (i * 3 + 1) v).set_ (i * 3 + 2) (.bool false)
  rw [List.setIfInBounds_toArray, List.setIfInBounds_toArray, List.setIfInBounds_toArray, (encS_set xs i x hx v true).1,
   (encS_set _ i (v, x.2) (by simp [hi]) v true).2.1, List.set_set, (encS_set _ i (v, v, x.2.2) (by simp [hi]) v false).2.2, List.set_set] at hb
  exact hb
 ·have ne : ∀ {v : Value} {o : Option (List UInt8)}, Byt w v o → ∀ k, v.ownBlock = some k → k ∉ [L] := by
   intro v o hv k hk hm
   simp at hm; subst hm
   exact hv.ne h.2.1 (by decide) hk
  intro j y z hy hz
  rw [List.getElem?_set] at hy hz
  by_cases hj : i = j
  ·subst hj
   rw [if_pos rfl, if_pos hi] at hy
   rw [if_pos rfl, if_pos (by rw [← h.2.2.1.1]; exact hi)] at hz
   cases hy
   cases hz
   exact ⟨hv.turn ht1 (ne hv), hv.turn ht1 (ne hv), rfl, ho, ho⟩
  ·rw [if_neg hj] at hy hz
   obtain ⟨a, b, c1⟩ := h.2.2.1.2 j y z hy hz
   exact ⟨a.turn ht1 (ne a), b.turn ht1 (ne b), c1⟩
def Sec.left (x : Sec) (kp : Bool) : Option (List UInt8) := if x.dirty && kp then x.now else x.syn
def crashTo (s : Dsk) (kp : Nat → Bool) (k : Nat) : Dsk :=
 { Dsk.new s.secs.length with secs := s.secs.mapIdx fun i x => if i < k then ⟨x.left (kp i), x.left (kp i), false⟩ else ⟨none, none, false⟩ }
theorem crashTo_zero (s : Dsk) (kp : Nat → Bool) : crashTo s kp 0 = Dsk.new s.secs.length := by
 simp only [crashTo, Dsk.new, Dsk.mk.injEq, and_true]
 apply List.ext_getElem? ; intro i
 simp [List.getElem?_replicate]
 by_cases hn : i < s.secs.length <;> simp [hn]
theorem crashTo_succ (s : Dsk) (kp : Nat → Bool) (k : Nat) (h : k < s.secs.length) :
  { crashTo s kp k with secs := (crashTo s kp k).secs.set k ⟨s.secs[k].left (kp k), s.secs[k].left (kp k), false⟩ } = crashTo s kp (k + 1) := by
 simp only [crashTo, Dsk.mk.injEq, and_true]
 apply List.ext_getElem? ; intro i
 rw [List.getElem?_set]
 simp only [List.getElem?_mapIdx, List.length_mapIdx]
 by_cases hk : k = i
 ·subst hk
  simp [h]
 ·by_cases hn : i < s.secs.length
  ·by_cases hl : i < k
   ·have : i < k + 1 := by omega
    simp [hk, hn, hl, this]
   ·have : ¬ i < k + 1 := by omega
    simp [hk, hn, hl, this]
  ·simp [hk, hn]
theorem neqNilKeep (kf : Nat) (caps : Array Value) (w : World) : (binOp .neq 66 (.func (.func kf) #[] caps) .nilFunc).run Tryz.prog w = .ok (.bool true) w := by kernel_rfl
structure Asks (kf : Nat) (caps : Array Value) (s : Dsk) (kp : Nat → Bool) (B0 : Nat) (S : List Nat) (J : Nat → World → Prop) : Prop where
 enters : ∀ args w, (callFunc kf args).run Tryz.prog w = .ok (.enter kf args) w
 abide : ∀ k w1 w2, J k w1 → (∀ j, j < B0 → w2.heap[j]? = w1.heap[j]?) → J k w2
 typed : ∀ k w1, J k w1 → ∀ g ∈ S, ∃ t cs, Blk w1 g t cs ∧ t ≠ 5
 skip : ∀ k w1, (h : k < s.secs.length) → s.secs[k].dirty = false → J k w1 → J (k + 1) w1
 ask : ∀ k w1, (h : k < s.secs.length) → s.secs[k].dirty = true → J k w1 → Calls Tryz.prog kf (#[.int .i64 k] ++ caps) w1 fun e w' => e = .returned (.bool (kp k)) ∧ J (k + 1) w' ∧ Turn S w1 w'
theorem three_turn (w : World) (L i : Nat) (a b c : Value) : Turn [L] w (((w.setCell ⟨L, i, none⟩ a).setCell ⟨L, i + 1, none⟩ b).setCell ⟨L, i + 2, none⟩ c) :=
 (((Turn.refl _ _).setCell (.inl (by simp)) _).setCell (.inl (by simp)) _).setCell (.inl (by simp)) _
theorem crash_round {w w2 : World} {d L kf k : Nat} {caps : Array Value} {xs ys : List SecV} {s : Dsk} {kp : Nat → Bool} {S : List Nat} {J : Nat → World → Prop} {y : SecV} {v : Value}
  (hA : Asks kf caps s kp w.heap.size S J) (h3 : DiskAt w2 (w.heap.size + 1) w.heap.size ys (crashTo s kp k)) (hy : ys[k]? = some y) (hk : k < s.secs.length)
  (hv : Byt w2 v (s.secs[k].left (kp k))) (hl : ∀ l, s.secs[k].left (kp k) = some l → l.length = 256) (h2 : DiskAt w2 d L xs s) (hd : d < w.heap.size) (hL : L < w.heap.size)
  (hJ : J (k + 1) w2) (hT : Turn S w w2) :
  DiskAt (((w2.setCell ⟨w.heap.size, k * 3, none⟩ v).setCell ⟨w.heap.size, k * 3 + 1, none⟩ v).setCell ⟨w.heap.size, k * 3 + 2, none⟩ (.bool false)) (w.heap.size + 1) w.heap.size (ys.set k (v, v, false)) (crashTo s kp (k + 1)) ∧
  DiskAt (((w2.setCell ⟨w.heap.size, k * 3, none⟩ v).setCell ⟨w.heap.size, k * 3 + 1, none⟩ v).setCell ⟨w.heap.size, k * 3 + 2, none⟩ (.bool false)) d L xs s ∧
  J (k + 1) (((w2.setCell ⟨w.heap.size, k * 3, none⟩ v).setCell ⟨w.heap.size, k * 3 + 1, none⟩ v).setCell ⟨w.heap.size, k * 3 + 2, none⟩ (.bool false)) ∧
  Turn S w (((w2.setCell ⟨w.heap.size, k * 3, none⟩ v).setCell ⟨w.heap.size, k * 3 + 1, none⟩ v).setCell ⟨w.heap.size, k * 3 + 2, none⟩ (.bool false)) := by
 have hB := h3.both hy hv hl
 rw [crashTo_succ s kp k hk] at hB
 have hTn := three_turn w2 w.heap.size (k * 3) v v (.bool false)
 refine ⟨hB, h2.turn hTn (by simp; omega) (by simp; omega) ?_, hA.abide _ _ _ hJ ?_, hT.trans hTn (fun x hx => .inr (by simp at hx; omega))⟩
 ·intro g hg
  simp at hg; subst hg
  exact ⟨_, _, h3.2.1, by decide⟩
 ·intro j hj
  exact hTn.block j (Nat.lt_of_lt_of_le hj hT.size) (by simp; omega)
set_option maxHeartbeats 2000000 in
theorem crash_any (d L kf : Nat) (caps : Array Value) (xs : List SecV) (s : Dsk) (kp : Nat → Bool) (S : List Nat) (J : Nat → World → Prop) (w : World) (h : DiskAt w d L xs s)
  (hA : Asks kf caps s kp w.heap.size S J) (h0 : J 0 w) (hd : d ∉ S) (hL : L ∉ S) (hlS : ∀ g ∈ S, g < w.heap.size) :
  Calls Tryz.prog 27 #[.pointer (some ⟨d, 0, none⟩), .func (.func kf) #[] caps] w fun e w' =>
   e = .returned (.pointer (some ⟨w.heap.size + 1, 0, none⟩)) ∧ (∃ ys, DiskAt w' (w.heap.size + 1) w.heap.size ys (crashTo s kp s.secs.length)) ∧ J s.secs.length w' ∧ Turn S w w' := by
 have hN := Lib.hid (new_in s.secs.length h.2.2.2.1 h.2.2.2.2 w)
 have hn := h.2.2.2.2
 have g0 := h.1.cell 0
 simp at g0
 go_enter Tryz.func27, Tryz.ntmps27
 go_wp2_with (go_at_call 11; refine hN.out.mono ?_; rintro e w1 ⟨rfl, hA1, hb⟩; have g1 := (hb.cell (p := ⟨d, 0, none⟩) h.1.lt).trans g0)
 have hdl := h.1.lt
 have hLl := h.2.1.lt
 have hb0 : w.heap.size + 1 < w1.heap.size := hA1.1.lt
 have h1 := h.below hb
 have hJ1 := hA.abide 0 w w1 h0 hb.block
 have hT1 : Turn S w w1 := Turn.of_below _ hb
 clear hN g0 g1
 go_loopw [22] (fun i wr => ∃ (k : Nat) (ys : List SecV), k ≤ s.secs.length ∧ i = .int .i64 k ∧ DiskAt wr (w.heap.size + 1) w.heap.size ys (crashTo s kp k) ∧ DiskAt wr d L xs s ∧ J k wr ∧ Turn S w wr)
  (fun i _ => s.secs.length - (intOf i).toNat)
 case atStart => exact ⟨0, _, by omega, rfl, by rw [crashTo_zero]; exact hA1, h1, hJ1, hT1⟩
 case round =>
  obtain ⟨k, ys, hk, rfl, hA2, h2, hJ, hT⟩ := hrel
  have hlk := Lib.hid (show (crashTo s kp k).secs.length = s.secs.length by simp [crashTo, Dsk.new])
  clear hA1 h1 hJ1 hT1
  by_cases hlt : k < s.secs.length
  ·have hki : (k : Int) < s.secs.length := by omega
   obtain ⟨y, hy⟩ : ∃ y, ys[k]? = some y := ⟨_, List.getElem?_eq_getElem (by rw [hA2.2.2.1.1, hlk.out]; exact hlt)⟩
   obtain ⟨x, hx⟩ : ∃ x, xs[k]? = some x := ⟨_, List.getElem?_eq_getElem (by rw [h2.2.2.1.1]; exact hlt)⟩
   have hs := h2.2.2.1.2 k x _ hx (List.getElem?_eq_getElem hlt)
   obtain ⟨A1, n1, c1, e1⟩ := hs.1.slice
   obtain ⟨A2, n2, c2, e2⟩ := hs.2.1.slice
   have r0 := h2.2.1.cell (k * 3)
   rw [List.getElem?_toArray, (encS_get xs k x hx).1, e1] at r0
   have r1 := h2.2.1.cell (k * 3 + 1)
   rw [List.getElem?_toArray, (encS_get xs k x hx).2.1, e2] at r1
   have r2 := h2.2.1.cell (k * 3 + 2)
   rw [List.getElem?_toArray, (encS_get xs k x hx).2.2] at r2
   have hbyt1 := Lib.hid hs.1
   have hbyt2 := Lib.hid hs.2.1
   have hl1 := Lib.hid hs.2.2.2.1
   have hl2 := Lib.hid hs.2.2.2.2
   have hdd := hs.2.2.1
   rw [e1] at hbyt1
   rw [e2] at hbyt2
   have HX := Lib.hid hx
   have HY := Lib.hid hy
   have HA2 := Lib.hid hA2
   have H2 := Lib.hid h2
   clear hs hx hy hA2 h2 e1 e2
   have hww : w.heap.size + 1 < wr.heap.size := HA2.out.1.lt
   have hww0 : w.heap.size < wr.heap.size := by omega
   cases hdb : s.secs[k].dirty with
   | false =>
    rw [hdb] at hdd
    rw [hdd] at r2
    have HD := Lib.hid hdb
    clear hdd hdb
    have q0 := HA2.out.1.cell 0
    simp [hlk.out] at q0
    have s0 := HA2.out.2.1.cell (k * 3)
    rw [List.getElem?_toArray, (encS_get ys k y HY.out).1] at s0
    have s1 := HA2.out.2.1.cell (k * 3 + 1)
    rw [List.getElem?_toArray, (encS_get ys k y HY.out).2.1] at s1
    have s2 := HA2.out.2.1.cell (k * 3 + 2)
    rw [List.getElem?_toArray, (encS_get ys k y HY.out).2.2] at s2
    have f0 := HA2.out.2.1.frozen (k * 3)
    have f1 := HA2.out.2.1.frozen (k * 3 + 1)
    have f2 := HA2.out.2.1.frozen (k * 3 + 2)
    go_wp2
    go_roundw
    case rel =>
     have hlf : s.secs[k].left (kp k) = s.secs[k].syn := by simp [Sec.left, HD.out]
     obtain ⟨z1, z2, z3, z4⟩ := crash_round hA HA2.out HY.out hlt (by rw [hlf]; exact hbyt2.out) (by rw [hlf]; exact hl2.out) H2.out hdl hLl (hA.skip k wr hlt HD.out hJ) hT
     have hal := (Below.refl (((wr.setCell ⟨w.heap.size, k * 3, none⟩ (.slice A2 n2 c2)).setCell ⟨w.heap.size, k * 3 + 1, none⟩ (.slice A2 n2 c2)).setCell ⟨w.heap.size, k * 3 + 2, none⟩ (.bool false)).heap.size _).alloc (Nat.le_refl _) (.cells #[.slice A1 n1 c1, .slice A2 n2 c2, .bool false] 99)
     exact ⟨k + 1, _, by omega, by go_num, z1.below hal, z2.below hal, hA.abide _ _ _ z3 (fun j hj => hal.block j (Nat.lt_of_lt_of_le hj z4.size)), z4.alloc _⟩
    case measure => simp [intOf]; omega
   | true =>
    rw [hdb] at hdd
    rw [hdd] at r2
    have HD := Lib.hid hdb
    clear hdd hdb
    have hal := (Below.refl wr.heap.size wr).alloc (Nat.le_refl _) (.cells #[.slice A1 n1 c1, .slice A2 n2 c2, .bool true] 99)
    have hJ' := hA.abide k wr (wr.alloc (.cells #[.slice A1 n1 c1, .slice A2 n2 c2, .bool true] 99)) hJ (fun j hj => hal.block j (by omega))
    have hC := hA.ask k _ hlt HD.out hJ'
    have htyp := hA.typed k _ hJ'
    have hEN0 := Lib.hid hA.enters
    have HT := Lib.hid hT
    have HJ := Lib.hid hJ'
    have Hal := Lib.hid hal
    have HAs := Lib.hid hA
    clear hJ hJ' hal hT hA
    have hNE := neqNilKeep kf caps
    have hEN := hEN0.out
    cases hkp : kp k with
    | true =>
     rw [hkp] at hC
     have HKP := Lib.hid hkp
     have HC := Lib.hid hC
     clear hkp hC
     go_wp2_with ((with_reducible refine HC.out.mono ?_); rintro e w2 ⟨rfl, hJ2, hT2⟩; have HJ2 := Lib.hid hJ2; have HT2 := Lib.hid hT2; clear hJ2 hT2; have HA3 := Lib.hid ((HA2.out.below Hal.out).turn HT2.out (fun hm => by have := hlS _ hm; omega) (fun hm => by have := hlS _ hm; omega) htyp); have q0 := HA3.out.1.cell 0; simp [hlk.out] at q0; have s0 := HA3.out.2.1.cell (k * 3); rw [List.getElem?_toArray, (encS_get ys k y HY.out).1] at s0; have s1 := HA3.out.2.1.cell (k * 3 + 1); rw [List.getElem?_toArray, (encS_get ys k y HY.out).2.1] at s1; have s2 := HA3.out.2.1.cell (k * 3 + 2); rw [List.getElem?_toArray, (encS_get ys k y HY.out).2.2] at s2; have f0 := HA3.out.2.1.frozen (k * 3); have f1 := HA3.out.2.1.frozen (k * 3 + 1); have f2 := HA3.out.2.1.frozen (k * 3 + 2); have b0 := ((Blk.new wr 99 #[.slice A1 n1 c1, .slice A2 n2 c2, .bool true]).turn HT2.out (fun hm => by have := hlS _ hm; omega)).cell 0; simp at b0)
     go_roundw
     case rel =>
      have hlf : s.secs[k].left (kp k) = s.secs[k].now := by simp [Sec.left, HD.out, HKP.out]
      have hbv : Byt w2 (.slice A1 n1 c1) s.secs[k].now := (hbyt1.out.below Hal.out).turn HT2.out (fun g hg hm => by obtain ⟨t, cs, hb1, hb2⟩ := htyp g hm; exact (hbyt1.out.below Hal.out).ne hb1 hb2 hg)
      obtain ⟨z1, z2, z3, z4⟩ := crash_round HAs.out HA3.out HY.out hlt (by rw [hlf]; exact hbv) (by rw [hlf]; exact hl1.out) ((H2.out.below Hal.out).turn HT2.out hd hL htyp) hdl hLl HJ2.out ((HT.out.alloc _).trans HT2.out (fun x hx => .inl hx))
      exact ⟨k + 1, _, by omega, by go_num, z1, z2, z3, z4⟩
     case measure => simp [intOf]; omega
    | false =>
     rw [hkp] at hC
     have HKP := Lib.hid hkp
     have HC := Lib.hid hC
     clear hkp hC
     go_wp2_with ((with_reducible refine HC.out.mono ?_); rintro e w2 ⟨rfl, hJ2, hT2⟩; have HJ2 := Lib.hid hJ2; have HT2 := Lib.hid hT2; clear hJ2 hT2; have HA3 := Lib.hid ((HA2.out.below Hal.out).turn HT2.out (fun hm => by have := hlS _ hm; omega) (fun hm => by have := hlS _ hm; omega) htyp); have q0 := HA3.out.1.cell 0; simp [hlk.out] at q0; have s0 := HA3.out.2.1.cell (k * 3); rw [List.getElem?_toArray, (encS_get ys k y HY.out).1] at s0; have s1 := HA3.out.2.1.cell (k * 3 + 1); rw [List.getElem?_toArray, (encS_get ys k y HY.out).2.1] at s1; have s2 := HA3.out.2.1.cell (k * 3 + 2); rw [List.getElem?_toArray, (encS_get ys k y HY.out).2.2] at s2; have f0 := HA3.out.2.1.frozen (k * 3); have f1 := HA3.out.2.1.frozen (k * 3 + 1); have f2 := HA3.out.2.1.frozen (k * 3 + 2); have b0 := ((Blk.new wr 99 #[.slice A1 n1 c1, .slice A2 n2 c2, .bool true]).turn HT2.out (fun hm => by have := hlS _ hm; omega)).cell 0; simp at b0)
     go_roundw
     case rel =>
      have hlf : s.secs[k].left (kp k) = s.secs[k].syn := by simp [Sec.left, HD.out, HKP.out]
      have hbv : Byt w2 (.slice A2 n2 c2) s.secs[k].syn := (hbyt2.out.below Hal.out).turn HT2.out (fun g hg hm => by obtain ⟨t, cs, hb1, hb2⟩ := htyp g hm; exact (hbyt2.out.below Hal.out).ne hb1 hb2 hg)
      obtain ⟨z1, z2, z3, z4⟩ := crash_round HAs.out HA3.out HY.out hlt (by rw [hlf]; exact hbv) (by rw [hlf]; exact hl2.out) ((H2.out.below Hal.out).turn HT2.out hd hL htyp) hdl hLl HJ2.out ((HT.out.alloc _).trans HT2.out (fun x hx => .inl hx))
      exact ⟨k + 1, _, by omega, by go_num, z1, z2, z3, z4⟩
     case measure => simp [intOf]; omega
  ·obtain rfl : k = s.secs.length := by omega
   have hq : ¬ ((s.secs.length : Int) < s.secs.length) := by omega
   have HA2 := Lib.hid hA2
   clear hA2 hlt hlk h2
   go_wp2
   go_ret
   exact ⟨rfl, ⟨_, HA2.out⟩, hJ, hT⟩
end Go.Proofs.YtgjnmpjimhbfgaaGreatDoor
namespace Go.Proofs.YtgjnmpjimhbfgaaGreatDoor
set_option maxRecDepth 100000
def Sec.sread (x : Sec) : List UInt8 := x.syn.getD (zs 256)
def Dsk.n (s : Dsk) : Nat := s.secs.length
def Dsk.rd (s : Dsk) (i : Nat) : List UInt8 := ((s.secs[i]?).map Sec.read).getD []
def Dsk.srd (s : Dsk) (i : Nat) : List UInt8 := ((s.secs[i]?).map Sec.sread).getD []
def Dsk.wr (s : Dsk) (i : Nat) (l : List UInt8) : Bool × Dsk := if s.dead then (false, s) else (true, (s.put i l).done)
def Dsk.sy (s : Dsk) : Bool × Dsk := if s.dead then (false, s) else (true, Dsk.done { s with secs := s.secs.map Sec.sync })
def Dsk.wrote (s : Dsk) (i : Nat) (l : List UInt8) : Bool × Dsk := if s.rd i = l then (true, s) else s.wr i l
def Dsk.crash (s : Dsk) (kp : Nat → Bool) : Dsk := crashTo s kp s.secs.length
theorem Dsk.done_secs (s : Dsk) : s.done.secs = s.secs := by unfold Dsk.done; split <;> rfl
theorem Dsk.done_rd (s : Dsk) (i : Nat) : s.done.rd i = s.rd i := by unfold Dsk.rd; rw [Dsk.done_secs]
theorem Dsk.done_srd (s : Dsk) (i : Nat) : s.done.srd i = s.srd i := by unfold Dsk.srd; rw [Dsk.done_secs]
theorem Dsk.done_n (s : Dsk) : s.done.n = s.n := by unfold Dsk.n; rw [Dsk.done_secs]
theorem Dsk.put_n (s : Dsk) (i : Nat) (l : List UInt8) : (s.put i l).n = s.n := by unfold Dsk.n Dsk.put; simp
theorem Dsk.put_rd (s : Dsk) (i j : Nat) (l : List UInt8) (hi : i < s.n) : (s.put i l).rd j = if i = j then l else s.rd j := by
 unfold Dsk.rd Dsk.put
 simp only [List.getElem?_modify]
 by_cases h : i = j
 ·subst h
  simp only [if_true]
  rw [List.getElem?_eq_getElem hi]
  rfl
 ·simp [h]
theorem Dsk.put_srd (s : Dsk) (i j : Nat) (l : List UInt8) : (s.put i l).srd j = s.srd j := by
 unfold Dsk.srd Dsk.put
 simp only [List.getElem?_modify]
 cases h : s.secs[j]? with
 | none => simp
 | some x => by_cases h2 : i = j <;> simp [h2, Sec.put, Sec.sread]
theorem Dsk.sync_n (s : Dsk) : ({ s with secs := s.secs.map Sec.sync } : Dsk).n = s.n := by unfold Dsk.n; simp
theorem Dsk.sync_rd (s : Dsk) (j : Nat) : ({ s with secs := s.secs.map Sec.sync } : Dsk).rd j = s.rd j := by
 unfold Dsk.rd
 simp only [List.getElem?_map]
 cases h : s.secs[j]? with
 | none => rfl
 | some x => simp [Sec.sync, Sec.read]
theorem Dsk.sync_srd (s : Dsk) (j : Nat) : ({ s with secs := s.secs.map Sec.sync } : Dsk).srd j = s.rd j := by
 unfold Dsk.rd Dsk.srd
 simp only [List.getElem?_map]
 cases h : s.secs[j]? with
 | none => rfl
 | some x => simp [Sec.sync, Sec.read, Sec.sread]
def Cl (s : Dsk) (i : Nat) (l : List UInt8) : Prop := s.rd i = l ∧ s.srd i = l
structure FOk (s : Dsk) (k : Nat) : Prop where
 left : s.fused = true → s.dead = false → 1 ≤ s.left
 most : s.left ≤ 1000
 count : s.count ≤ k
theorem FOk.mono {s : Dsk} {k k' : Nat} (h : FOk s k) (hk : k ≤ k') : FOk s k' := ⟨h.left, h.most, Nat.le_trans h.count hk⟩
theorem FOk.done {s s' : Dsk} {k : Nat} (h : FOk s k) (_h1 : s'.fused = s.fused) (h2 : s'.left = s.left) (h4 : s'.count = s.count) : FOk s'.done (k + 1) := by
 have h5 := h.count
 have h6 := h.most
 unfold Dsk.done
 split
 ·refine ⟨fun _ h0 => ?_, by simp only; omega, by simp only; omega⟩
  simp only [decide_eq_false_iff_not] at h0
  simp only
  omega
 ·rename_i hf
  exact ⟨fun h0 => absurd h0 hf, by simp only; omega, by simp only; omega⟩
structure Did_q (s s' : Dsk) (ok : Bool) : Prop where
 n : s'.n = s.n
 fused : s'.fused = s.fused
 alive : s.fused = false → s.dead = false → s'.dead = false ∧ ok = true
 no : ok = false → s'.dead = true
theorem Did_q.refl (s : Dsk) (h : s.dead = true) : Did_q s s false := ⟨rfl, rfl, fun _ h0 => absurd (h.symm.trans h0) (by decide), fun _ => h⟩
theorem Did_q.same (s : Dsk) : Did_q s s true := ⟨rfl, rfl, fun _ h => ⟨h, rfl⟩, fun h => by cases h⟩
theorem Dsk.done_fused (s : Dsk) : s.done.fused = s.fused := by unfold Dsk.done; split <;> rfl
theorem Dsk.done_dead (s : Dsk) (h : s.fused = false) : s.done.dead = s.dead := by unfold Dsk.done; rw [h]; rfl
theorem wr_did (s : Dsk) (i : Nat) (l : List UInt8) : Did_q s (s.wr i l).2 (s.wr i l).1 := by
 unfold Dsk.wr
 split
 ·rename_i h; exact Did_q.refl s h
 ·exact ⟨(Dsk.done_n _).trans (Dsk.put_n _ _ _), Dsk.done_fused _, fun h1 h2 => ⟨(Dsk.done_dead (s.put i l) h1).trans h2, rfl⟩, fun h1 => by cases h1⟩
theorem sy_did (s : Dsk) : Did_q s s.sy.2 s.sy.1 := by
 unfold Dsk.sy
 split
 ·rename_i h; exact Did_q.refl s h
 ·exact ⟨(Dsk.done_n _).trans (Dsk.sync_n _), Dsk.done_fused _, fun h1 h2 => ⟨(Dsk.done_dead ({ s with secs := s.secs.map Sec.sync } : Dsk) h1).trans h2, rfl⟩, fun h1 => by cases h1⟩
theorem wrote_did (s : Dsk) (i : Nat) (l : List UInt8) : Did_q s (s.wrote i l).2 (s.wrote i l).1 := by
 unfold Dsk.wrote
 split
 ·exact Did_q.same s
 ·exact wr_did s i l
theorem Did_q.trans {s s' s'' : Dsk} {ok : Bool} (h : Did_q s s' true) (k : Did_q s' s'' ok) : Did_q s s'' ok :=
 ⟨k.n.trans h.n, k.fused.trans h.fused, fun h1 h2 => k.alive (h.fused.trans h1) (h.alive h1 h2).1, k.no⟩
theorem wr_fok {s : Dsk} {k : Nat} (h : FOk s k) (i : Nat) (l : List UInt8) : FOk (s.wr i l).2 (k + 1) := by
 unfold Dsk.wr
 split
 ·exact h.mono (by omega)
 ·exact h.done rfl rfl rfl
theorem sy_fok {s : Dsk} {k : Nat} (h : FOk s k) : FOk s.sy.2 (k + 1) := by
 unfold Dsk.sy
 split
 ·exact h.mono (by omega)
 ·exact h.done rfl rfl rfl
theorem wrote_fok {s : Dsk} {k : Nat} (h : FOk s k) (i : Nat) (l : List UInt8) : FOk (s.wrote i l).2 (k + 1) := by
 unfold Dsk.wrote
 split
 ·exact h.mono (by omega)
 ·exact wr_fok h i l
theorem wr_cl {s : Dsk} {i j : Nat} {l b : List UInt8} (h : Cl s j b) (hi : i < s.n) (hne : i ≠ j) : Cl (s.wr i l).2 j b := by
 unfold Dsk.wr
 split
 ·exact h
 ·unfold Cl
  rw [Dsk.done_rd, Dsk.done_srd, Dsk.put_rd _ _ _ _ hi, if_neg hne, Dsk.put_srd]
  exact h
theorem wr_rd {s : Dsk} {i j : Nat} {l : List UInt8} (hi : i < s.n) (hok : (s.wr i l).1 = true) : (s.wr i l).2.rd j = if i = j then l else s.rd j := by
 unfold Dsk.wr at hok ⊢
 split
 ·rename_i h; rw [if_pos h] at hok; cases hok
 ·rw [Dsk.done_rd, Dsk.put_rd _ _ _ _ hi]
theorem wr_srd {s : Dsk} {i j : Nat} {l : List UInt8} : (s.wr i l).2.srd j = s.srd j := by
 unfold Dsk.wr
 split
 ·rfl
 ·rw [Dsk.done_srd, Dsk.put_srd]
theorem sy_cl {s : Dsk} {j : Nat} {b : List UInt8} (h : Cl s j b) : Cl s.sy.2 j b := by
 unfold Dsk.sy
 split
 ·exact h
 ·unfold Cl
  rw [Dsk.done_rd, Dsk.done_srd, Dsk.sync_rd, Dsk.sync_srd]
  exact ⟨h.1, h.1⟩
theorem sy_cl_of {s : Dsk} {j : Nat} {b : List UInt8} (h : s.rd j = b) (hok : s.sy.1 = true) : Cl s.sy.2 j b := by
 unfold Dsk.sy at hok ⊢
 split
 ·rename_i h0; rw [if_pos h0] at hok; cases hok
 ·unfold Cl
  rw [Dsk.done_rd, Dsk.done_srd, Dsk.sync_rd, Dsk.sync_srd]
  exact ⟨h, h⟩
theorem sy_rd {s : Dsk} {j : Nat} : s.sy.2.rd j = s.rd j := by
 unfold Dsk.sy
 split
 ·rfl
 ·rw [Dsk.done_rd, Dsk.sync_rd]
theorem wrote_cl {s : Dsk} {i j : Nat} {l b : List UInt8} (h : Cl s j b) (hi : i < s.n) (hne : i ≠ j) : Cl (s.wrote i l).2 j b := by
 unfold Dsk.wrote
 split
 ·exact h
 ·exact wr_cl h hi hne
theorem wrote_rd {s : Dsk} {i j : Nat} {l : List UInt8} (hi : i < s.n) (hok : (s.wrote i l).1 = true) : (s.wrote i l).2.rd j = if i = j then l else s.rd j := by
 unfold Dsk.wrote at hok ⊢
 split
 ·rename_i h
  by_cases h2 : i = j
  ·subst h2; rw [if_pos rfl]; exact h
  ·rw [if_neg h2]
 ·rename_i h
  rw [if_neg h] at hok
  exact wr_rd hi hok
def Dsk.row : Dsk → Nat → List (List UInt8) → Bool × Dsk
 | s, _, [] => (true, s)
 | s, i, b :: r => if (s.wrote i b).1 then (s.wrote i b).2.row (i + 1) r else (false, (s.wrote i b).2)
theorem row_did : ∀ (bs : List (List UInt8)) (s : Dsk) (i : Nat), Did_q s (s.row i bs).2 (s.row i bs).1
 | [], s, i => Did_q.same s
 | b :: r, s, i => by
  unfold Dsk.row
  have h := wrote_did s i b
  cases hok : (s.wrote i b).1 with
  | true => rw [hok] at h; exact h.trans (row_did r _ _)
  | false => rw [hok] at h; exact h
theorem row_fok : ∀ (bs : List (List UInt8)) (s : Dsk) (i k : Nat), FOk s k → FOk (s.row i bs).2 (k + bs.length)
 | [], s, i, k, h => h
 | b :: r, s, i, k, h => by
  unfold Dsk.row
  split
  ·exact (row_fok r _ _ _ (wrote_fok h i b)).mono (by rw [List.length_cons]; omega)
  ·exact (wrote_fok h i b).mono (by rw [List.length_cons]; omega)
theorem row_cl : ∀ (bs : List (List UInt8)) (s : Dsk) (i j : Nat) (b : List UInt8), Cl s j b → i + bs.length ≤ s.n → (j < i ∨ i + bs.length ≤ j) → Cl (s.row i bs).2 j b
 | [], s, i, j, b, h, _, _ => h
 | x :: r, s, i, j, b, h, hn, hj => by
  rw [List.length_cons] at hn hj
  unfold Dsk.row
  have h1 := wrote_cl (l := x) h (by omega) (show i ≠ j by omega)
  split
  ·exact row_cl r _ _ _ _ h1 (by rw [(wrote_did s i x).n]; omega) (by omega)
  ·exact h1
theorem row_rd : ∀ (bs : List (List UInt8)) (s : Dsk) (i : Nat), i + bs.length ≤ s.n → (s.row i bs).1 = true → ∀ j, (s.row i bs).2.rd j = if i ≤ j then (match bs[j - i]? with | some b => b | none => s.rd j) else s.rd j
 | [], s, i, hn, hok, j => by unfold Dsk.row; simp
 | x :: r, s, i, hn, hok, j => by
  rw [List.length_cons] at hn
  unfold Dsk.row at hok ⊢
  split
  ·rename_i h
   rw [if_pos h] at hok
   rw [row_rd r _ _ (by rw [(wrote_did s i x).n]; omega) hok j, wrote_rd (by omega) h]
   by_cases h1 : i + 1 ≤ j
   ·rw [if_pos h1, if_pos (show i ≤ j by omega), if_neg (show ¬ i = j by omega), show j - i = (j - (i + 1)) + 1 by omega, List.getElem?_cons_succ]
   ·rw [if_neg h1]
    by_cases h2 : i = j
    ·subst h2; simp
    ·rw [if_neg h2, if_neg (by omega)]
  ·rename_i h
   rw [if_neg h] at hok
   cases hok
theorem crash_secs (s : Dsk) (kp : Nat → Bool) : (s.crash kp).secs = s.secs.mapIdx fun i x => ⟨x.left (kp i), x.left (kp i), false⟩ := by
 unfold Dsk.crash crashTo
 simp only
 apply List.ext_getElem?
 intro i
 rw [List.getElem?_mapIdx, List.getElem?_mapIdx]
 cases h : s.secs[i]? with
 | none => rfl
 | some x =>
  have hi := (List.getElem?_eq_some_iff.1 h).1
  simp [hi]
theorem crash_n (s : Dsk) (kp : Nat → Bool) : (s.crash kp).n = s.n := by unfold Dsk.n; rw [crash_secs, List.length_mapIdx]
theorem crash_rd (s : Dsk) (kp : Nat → Bool) (i : Nat) : ∃ l, Cl (s.crash kp) i l ∧ (l = s.rd i ∨ l = s.srd i) := by
 unfold Cl Dsk.rd Dsk.srd
 rw [crash_secs]
 simp only [List.getElem?_mapIdx]
 cases h : s.secs[i]? with
 | none => exact ⟨[], ⟨rfl, rfl⟩, .inl rfl⟩
 | some x =>
  simp only [Option.map_some, Option.getD_some]
  unfold Sec.left Sec.read Sec.sread
  simp only
  split
  ·exact ⟨_, ⟨rfl, rfl⟩, .inl rfl⟩
  ·exact ⟨_, ⟨rfl, rfl⟩, .inr rfl⟩
theorem crash_cl {s : Dsk} {i : Nat} {b : List UInt8} (h : Cl s i b) (kp : Nat → Bool) : Cl (s.crash kp) i b := by
 obtain ⟨l, h1, h2 | h2⟩ := crash_rd s kp i
 ·rw [h2, h.1] at h1; exact h1
 ·rw [h2, h.2] at h1; exact h1
theorem crash_fresh (s : Dsk) (kp : Nat → Bool) : (s.crash kp).fused = false ∧ (s.crash kp).dead = false ∧ FOk (s.crash kp) 0 := ⟨rfl, rfl, ⟨fun h => (nomatch h), (show (0 : Int) ≤ 1000 by decide), Nat.le_refl _⟩⟩
section
variable (hb : Nat → List UInt8)
def HeadLess (i c : Nat) (l : List UInt8) : Prop := l = zs 256 ∨ ∃ c', c' < c ∧ c' % 2 = i ∧ l = hb c'
structure Good (s : Dsk) (c : Nat) (m : List (List UInt8)) : Prop where
 n16 : 16 ≤ s.n
 n60 : s.n ≤ 1000
 len : m.length = (s.n - 8) / 2
 h1 : Cl s (c % 2) (hb c)
 h2 : ∃ l, Cl s ((c + 1) % 2) l ∧ HeadLess hb ((c + 1) % 2) c l
 side : ∀ (i : Nat) (b : List UInt8), m[i]? = some b → Cl s (8 + c % 2 * ((s.n - 8) / 2) + i) b
structure Half (s : Dsk) (c : Nat) (m m2 : List (List UInt8)) : Prop where
 n16 : 16 ≤ s.n
 n60 : s.n ≤ 1000
 len : m.length = (s.n - 8) / 2
 len2 : m2.length = (s.n - 8) / 2
 h1 : Cl s (c % 2) (hb c)
 h2 : HeadLess hb ((c + 1) % 2) c (s.srd ((c + 1) % 2))
 h3 : s.rd ((c + 1) % 2) = hb (c + 1)
 side : ∀ (i : Nat) (b : List UInt8), m[i]? = some b → Cl s (8 + c % 2 * ((s.n - 8) / 2) + i) b
 side2 : ∀ (i : Nat) (b : List UInt8), m2[i]? = some b → Cl s (8 + (c + 1) % 2 * ((s.n - 8) / 2) + i) b
variable {hb}
theorem Good.crash {s : Dsk} {c : Nat} {m : List (List UInt8)} (h : Good hb s c m) (kp : Nat → Bool) : Good hb (s.crash kp) c m := by
 have hn := crash_n s kp
 refine ⟨by rw [hn]; exact h.n16, by rw [hn]; exact h.n60, by rw [hn]; exact h.len, crash_cl h.h1 kp, ?_, fun i b hi => by rw [hn]; exact crash_cl (h.side i b hi) kp⟩
 obtain ⟨l, h1, h2⟩ := h.h2
 exact ⟨l, crash_cl h1 kp, h2⟩
theorem mod_succ (c : Nat) : (c + 1 + 1) % 2 = c % 2 := by omega
theorem Half.crash {s : Dsk} {c : Nat} {m m2 : List (List UInt8)} (h : Half hb s c m m2) (kp : Nat → Bool) : Good hb (s.crash kp) c m ∨ Good hb (s.crash kp) (c + 1) m2 := by
 have hn := crash_n s kp
 obtain ⟨l, h1, h2 | h2⟩ := crash_rd s kp ((c + 1) % 2)
 ·right
  rw [h.h3] at h2
  rw [h2] at h1
  refine ⟨by rw [hn]; exact h.n16, by rw [hn]; exact h.n60, by rw [hn]; exact h.len2, h1, ⟨hb c, ?_, .inr ⟨c, by omega, by omega, rfl⟩⟩, fun i b hi => by rw [hn]; exact crash_cl (h.side2 i b hi) kp⟩
  rw [mod_succ]; exact crash_cl h.h1 kp
 ·left
  rw [h2] at h1
  exact ⟨by rw [hn]; exact h.n16, by rw [hn]; exact h.n60, by rw [hn]; exact h.len, crash_cl h.h1 kp, ⟨_, h1, h.h2⟩, fun i b hi => by rw [hn]; exact crash_cl (h.side i b hi) kp⟩
variable (hb)
def Dsk.turnW (s : Dsk) (c : Nat) (m2 : List (List UInt8)) : Bool × Dsk :=
 if (s.row (8 + (c + 1) % 2 * ((s.n - 8) / 2)) m2).1 = false then (false, (s.row (8 + (c + 1) % 2 * ((s.n - 8) / 2)) m2).2)
 else if (s.row (8 + (c + 1) % 2 * ((s.n - 8) / 2)) m2).2.sy.1 = false then (false, (s.row (8 + (c + 1) % 2 * ((s.n - 8) / 2)) m2).2.sy.2)
 else if ((s.row (8 + (c + 1) % 2 * ((s.n - 8) / 2)) m2).2.sy.2.wr ((c + 1) % 2) (hb (c + 1))).1 = false then (false, ((s.row (8 + (c + 1) % 2 * ((s.n - 8) / 2)) m2).2.sy.2.wr ((c + 1) % 2) (hb (c + 1))).2)
 else ((s.row (8 + (c + 1) % 2 * ((s.n - 8) / 2)) m2).2.sy.2.wr ((c + 1) % 2) (hb (c + 1))).2.sy
variable {hb}
theorem side_apart {n c i i2 j j2 : Nat} (hi : i < (n - 8) / 2) (h : 8 + c % 2 * ((n - 8) / 2) + i = j) (h2 : 8 + (c + 1) % 2 * ((n - 8) / 2) = i2) (hj : i2 + (n - 8) / 2 = j2) : j < i2 ∨ j2 ≤ j := by
 rcases (show c % 2 = 0 ∨ c % 2 = 1 by omega) with h0 | h0
 ·rw [h0] at h; rw [show (c + 1) % 2 = 1 by omega] at h2; left; omega
 ·rw [h0] at h; rw [show (c + 1) % 2 = 0 by omega] at h2; right; omega
theorem side_in {n c : Nat} (h : 16 ≤ n) : 8 + c % 2 * ((n - 8) / 2) + (n - 8) / 2 ≤ n := by
 rcases (show c % 2 = 0 ∨ c % 2 = 1 by omega) with h0 | h0 <;> rw [h0] <;> omega
theorem turn_spec {s : Dsk} {c k : Nat} {m m2 : List (List UInt8)} (h : Good hb s c m) (hf : FOk s k) (hl : m2.length = (s.n - 8) / 2) :
  Did_q s (s.turnW hb c m2).2 (s.turnW hb c m2).1 ∧ FOk (s.turnW hb c m2).2 (k + 1000) ∧
  ((s.turnW hb c m2).1 = true → Good hb (s.turnW hb c m2).2 (c + 1) m2) ∧ ((s.turnW hb c m2).1 = false → Good hb (s.turnW hb c m2).2 c m ∨ Half hb (s.turnW hb c m2).2 c m m2) := by
 have h16 := h.n16
 have h60 := h.n60
 obtain ⟨i2, hi2⟩ : ∃ i2, 8 + (c + 1) % 2 * ((s.n - 8) / 2) = i2 := ⟨_, rfl⟩
 have hin : i2 + m2.length ≤ s.n := by rw [← hi2, hl]; exact side_in h16
 have hi28 : 8 ≤ i2 := by rw [← hi2]; omega
 have hc2 : c % 2 < 2 := Nat.mod_lt _ (by omega)
 have hc3 : (c + 1) % 2 < 2 := Nat.mod_lt _ (by omega)
 have hcne : (c + 1) % 2 ≠ c % 2 := by omega
 obtain ⟨lo, hlo, hless⟩ := h.h2
 unfold Dsk.turnW
 rw [hi2]
 have d1 := row_did m2 s i2
 have f1 := row_fok m2 s i2 k hf
 have g1 : ∀ (j : Nat) (b : List UInt8), Cl s j b → (j < i2 ∨ i2 + m2.length ≤ j) → Cl (s.row i2 m2).2 j b := fun j b hj hd => row_cl m2 s i2 j b hj hin hd
 have r1 := row_rd m2 s i2 hin
 obtain ⟨ok1, s1, hr1⟩ : ∃ ok1 s1, s.row i2 m2 = (ok1, s1) := ⟨_, _, rfl⟩
 rw [hr1] at d1 f1 g1 r1 ⊢
 simp only at d1 f1 g1 r1 ⊢
 have hn1 := d1.n
 have side1 : ∀ (i : Nat) (b : List UInt8), m[i]? = some b → Cl s1 (8 + c % 2 * ((s1.n - 8) / 2) + i) b := fun i b hi => by
  rw [hn1]
  have hil := (List.getElem?_eq_some_iff.1 hi).1
  exact g1 _ _ (h.side i b hi) (side_apart (n := s.n) (c := c) (by rw [← h.len]; exact hil) rfl hi2 (by rw [hl]))
 have h1a := g1 _ _ h.h1 (.inl (by omega))
 have h2a := g1 _ _ hlo (.inl (by omega))
 have good1 : Good hb s1 c m := ⟨by omega, by omega, by rw [hn1]; exact h.len, h1a, ⟨lo, h2a, hless⟩, side1⟩
 cases ok1 with
 | false => exact ⟨d1, f1.mono (by omega), (fun h => by cases h), fun _ => .inl good1⟩
 | true =>
  simp only [Bool.true_eq_false, if_false]
  have d2 := sy_did s1
  have f2 := sy_fok f1
  have g2 : ∀ (j : Nat) (b : List UInt8), Cl s1 j b → Cl s1.sy.2 j b := fun j b hj => sy_cl hj
  have g2o : ∀ (j : Nat) (b : List UInt8), s1.rd j = b → s1.sy.1 = true → Cl s1.sy.2 j b := fun j b hj ho => sy_cl_of hj ho
  obtain ⟨ok2, s2, hr2⟩ : ∃ ok2 s2, s1.sy = (ok2, s2) := ⟨_, _, rfl⟩
  rw [hr2] at d2 f2 g2 g2o ⊢
  simp only at d2 f2 g2 g2o ⊢
  have hn2 := d2.n
  have good2 : Good hb s2 c m := ⟨by omega, by omega, by rw [hn2, hn1]; exact h.len, g2 _ _ h1a, ⟨lo, g2 _ _ h2a, hless⟩, fun i b hi => by rw [hn2]; exact g2 _ _ (side1 i b hi)⟩
  cases ok2 with
  | false => exact ⟨d1.trans d2, f2.mono (by omega), (fun h => by cases h), fun _ => .inl good2⟩
  | true =>
   simp only [Bool.true_eq_false, if_false]
   have side2 : ∀ (i : Nat) (b : List UInt8), m2[i]? = some b → Cl s2 (i2 + i) b := fun i b hi => by
    refine g2o _ _ ?_ rfl
    rw [r1 rfl, if_pos (by omega), show i2 + i - i2 = i by omega, hi]
   have d3 := wr_did s2 ((c + 1) % 2) (hb (c + 1))
   have f3 := wr_fok f2 ((c + 1) % 2) (hb (c + 1))
   have g3 : ∀ (j : Nat) (b : List UInt8), Cl s2 j b → (c + 1) % 2 ≠ j → Cl (s2.wr ((c + 1) % 2) (hb (c + 1))).2 j b := fun j b hj hne => wr_cl hj (by omega) hne
   have r3 := fun j ho => wr_rd (s := s2) (i := (c + 1) % 2) (j := j) (l := hb (c + 1)) (by omega) ho
   have q3 := fun j => wr_srd (s := s2) (i := (c + 1) % 2) (j := j) (l := hb (c + 1))
   have w0 : s2.dead = true → (s2.wr ((c + 1) % 2) (hb (c + 1))) = (false, s2) := fun hd => by unfold Dsk.wr; rw [if_pos hd]
   have w1 : (s2.wr ((c + 1) % 2) (hb (c + 1))).1 = false → s2.dead = true := fun hd => by
    unfold Dsk.wr at hd
    cases h0 : s2.dead with
    | true => rfl
    | false => rw [h0] at hd; simp at hd
   obtain ⟨ok3, s3, hr3⟩ : ∃ ok3 s3, s2.wr ((c + 1) % 2) (hb (c + 1)) = (ok3, s3) := ⟨_, _, rfl⟩
   rw [hr3] at d3 f3 g3 r3 q3 w0 w1 ⊢
   simp only at d3 f3 g3 r3 q3 w1 ⊢
   have hn3 := d3.n
   have d123 := (d1.trans d2).trans d3
   cases ok3 with
   | false =>
    have hs : s3 = s2 := by have := w0 (w1 rfl); injection this
    subst hs
    exact ⟨d123, f3.mono (by omega), (fun h => by cases h), fun _ => .inl good2⟩
   | true =>
    simp only [Bool.true_eq_false, if_false]
    have c8 : ∀ i, 8 + c % 2 * ((s2.n - 8) / 2) + i ≠ (c + 1) % 2 := fun i => by omega
    have side3 : ∀ (i : Nat) (b : List UInt8), m[i]? = some b → Cl s3 (8 + c % 2 * ((s3.n - 8) / 2) + i) b := fun i b hi => by
     rw [hn3]; exact g3 _ _ (good2.side i b hi) (fun e => c8 i e.symm)
    have side3b : ∀ (i : Nat) (b : List UInt8), m2[i]? = some b → Cl s3 (8 + (c + 1) % 2 * ((s3.n - 8) / 2) + i) b := fun i b hi => by
     rw [hn3, hn2, hn1, hi2]; exact g3 _ _ (side2 i b hi) (by omega)
    have half3 : Half hb s3 c m m2 := ⟨by omega, by omega, by rw [hn3, hn2, hn1]; exact h.len, by rw [hn3, hn2, hn1]; exact hl, g3 _ _ good2.h1 hcne, by
     rw [q3, (g2 _ _ h2a).2]; exact hless, by rw [r3 _ rfl, if_pos rfl], side3, side3b⟩
    have d4 := sy_did s3
    have f4 := sy_fok f3
    have g4 : ∀ (j : Nat) (b : List UInt8), Cl s3 j b → Cl s3.sy.2 j b := fun j b hj => sy_cl hj
    have g4o : ∀ (j : Nat) (b : List UInt8), s3.rd j = b → s3.sy.1 = true → Cl s3.sy.2 j b := fun j b hj ho => sy_cl_of hj ho
    have w4 : s3.sy.1 = false → s3.sy.2 = s3 := fun hd => by
     unfold Dsk.sy at hd ⊢
     cases h0 : s3.dead with
     | true => rfl
     | false => rw [h0] at hd; simp at hd
    obtain ⟨ok4, s4, hr4⟩ : ∃ ok4 s4, s3.sy = (ok4, s4) := ⟨_, _, rfl⟩
    rw [hr4] at d4 f4 g4 g4o w4 ⊢
    simp only at d4 f4 g4 g4o w4 ⊢
    have hn4 := d4.n
    refine ⟨d123.trans d4, f4.mono (by omega), fun ho => ?_, fun ho => .inr (by have := w4 ho; subst this; exact half3)⟩
    refine ⟨by omega, by omega, by rw [hn4, hn3, hn2, hn1]; exact hl, g4o _ _ half3.h3 ho, ⟨hb c, ?_, .inr ⟨c, by omega, by omega, rfl⟩⟩, fun i b hi => by rw [hn4]; exact g4 _ _ (side3b i b hi)⟩
    rw [mod_succ]; exact g4 _ _ half3.h1
def after (m : List (List UInt8)) (l : List (Nat × List UInt8)) : List (List UInt8) := l.foldl (fun m p => m.set p.1 p.2) m
theorem after_len (l : List (Nat × List UInt8)) : ∀ m, (after m l).length = m.length := by
 induction l with
 | nil => intro m; rfl
 | cons p l ih => intro m; show (after (m.set p.1 p.2) l).length = _; rw [ih, List.length_set]
theorem after_snoc (m : List (List UInt8)) (l : List (Nat × List UInt8)) (p : Nat × List UInt8) : after m (l ++ [p]) = (after m l).set p.1 p.2 := by unfold after; rw [List.foldl_append]; rfl
def lastPut (l : List (Nat × List UInt8)) (i : Nat) : Option (List UInt8) := l.foldl (fun o p => if p.1 = i then some p.2 else o) none
theorem lastPut_snoc (l : List (Nat × List UInt8)) (p : Nat × List UInt8) (i : Nat) : lastPut (l ++ [p]) i = if p.1 = i then some p.2 else lastPut l i := by unfold lastPut; rw [List.foldl_append]; rfl
theorem snocP {α : Type} {P : List α → Prop} (h0 : P []) (h1 : ∀ l x, P l → P (l ++ [x])) (l : List α) : P l := by
 have : ∀ n (l : List α), l.length = n → P l := by
  intro n
  induction n with
  | zero => intro l hl; rw [List.eq_nil_of_length_eq_zero hl]; exact h0
  | succ n ih =>
   intro l hl
   have hne : l ≠ [] := fun e => by subst e; simp at hl
   rw [← List.dropLast_concat_getLast hne]
   exact h1 _ _ (ih _ (by rw [List.length_dropLast]; omega))
 exact this _ l rfl
theorem after_get (m : List (List UInt8)) (l : List (Nat × List UInt8)) (i : Nat) (hi : i < m.length) : (after m l)[i]? = some ((lastPut l i).getD (m[i]?.getD [])) := by
 induction l using snocP with
 | h0 => show m[i]? = _; rw [List.getElem?_eq_getElem hi]; rfl
 | h1 l p ih =>
  rw [after_snoc, lastPut_snoc, List.getElem?_set, after_len]
  by_cases h : p.1 = i
  ·rw [if_pos h, if_pos h, if_pos (by omega)]; rfl
  ·rw [if_neg h, if_neg h]; exact ih
end
end Go.Proofs.YtgjnmpjimhbfgaaGreatDoor
namespace Go.Proofs.YtgjnmpjimhbfgaaGreatDoor
set_option maxRecDepth 100000
open Go.RowKit
end Go.Proofs.YtgjnmpjimhbfgaaGreatDoor
