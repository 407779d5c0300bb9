/-
  Contracts of disk.Write where it refuses, and of Sync.
-/
import Derived.Test.YtomngfihaohgdaaDoorDisk4
namespace Go.Proofs.YtomngfihaohgdaaDoor
open Go.RowKit

theorem dwrite_nil (i : Int) (A : Option Addr) (n c : Nat) (w : World) :
    Calls Tryd.prog 42 #[.pointer none, .int .i64 i, .slice A n c] w fun e w' => e = .returned (.bool false) ∧ w = w' := by
  go_enter Tryd.func42, Tryd.ntmps42
  go_wp2_with (go_at_call 37; refine (dead_nil _).mono ?_; rintro e w' ⟨rfl, rfl⟩)
  go_ret
  exact ⟨rfl, rfl⟩
theorem write_no (d L : Nat) (xs : List SecV) (s : Dsk) (i : Int) (A : Option Addr) (n c : Nat) (w : World) (h : DiskAt w d L xs s) (hn : s.dead = true ∨ i < 0 ∨ (s.secs.length : Int) ≤ i ∨ n ≠ 256) :
    Calls Tryd.prog 42 #[.pointer (some ⟨d, 0, none⟩), .int .i64 i, .slice A n c] w fun e w' => e = .returned (.bool false) ∧ w = w' := by
  have h0 := h.1.cell 0
  simp at h0
  have hD := dead_any d L xs s w h
  clear h
  cases hd : s.dead with
  | true =>
    rw [hd] at hD
    clear hn hd
    go_enter Tryd.func42, Tryd.ntmps42
    go_wp2_with (go_at_call 37; refine hD.mono ?_; rintro e w' ⟨rfl, rfl⟩)
    go_ret
    exact ⟨rfl, rfl⟩
  | false =>
    rw [hd] at hD hn
    clear hd
    simp only [Bool.false_eq_true, false_or] at hn
    rcases Int.lt_or_le i 0 with g0 | g0
    · clear hn
      go_enter Tryd.func42, Tryd.ntmps42
      go_wp2_with (go_at_call 37; refine hD.mono ?_; rintro e w' ⟨rfl, rfl⟩)
      go_ret
      exact ⟨rfl, rfl⟩
    · rcases Int.lt_or_le i s.secs.length with g1 | g1
      · have g2 : n ≠ 256 := by omega
        clear hn
        have g3 : ((n : Int) != 256) = true := by simp; omega
        clear g2
        go_enter Tryd.func42, Tryd.ntmps42
        go_wp2_with (go_at_call 37; refine hD.mono ?_; rintro e w' ⟨rfl, rfl⟩)
        go_ret
        exact ⟨rfl, rfl⟩
      · clear hn
        go_enter Tryd.func42, Tryd.ntmps42
        go_wp2_with (go_at_call 37; refine hD.mono ?_; rintro e w' ⟨rfl, rfl⟩)
        go_ret
        exact ⟨rfl, rfl⟩

/-! ### Sync -/
def Sec.sync (x : Sec) : Sec := { x with syn := x.now, dirty := false }
def Dsk.syncTo (s : Dsk) (k : Nat) : Dsk := { s with secs := s.secs.mapIdx fun i x => if i < k then x.sync else x }
theorem Dsk.syncTo_zero (s : Dsk) : s.syncTo 0 = s := by
  cases s
  simp only [Dsk.syncTo, Dsk.mk.injEq, and_true]
  apply List.ext_getElem?
  intro i
  simp
theorem Dsk.syncTo_all (s : Dsk) : s.syncTo s.secs.length = { s with secs := s.secs.map Sec.sync } := by
  simp only [Dsk.syncTo, Dsk.mk.injEq, and_true]
  apply List.ext_getElem?
  intro i
  simp only [List.getElem?_mapIdx, List.getElem?_map]
  cases h : s.secs[i]? with
  | none => rfl
  | some x => simp [(List.getElem?_eq_some_iff.1 h).1]
theorem Dsk.syncTo_succ (s : Dsk) (k : Nat) : { s.syncTo k with secs := (s.syncTo k).secs.modify k Sec.sync } = s.syncTo (k + 1) := by
  simp only [Dsk.syncTo, Dsk.mk.injEq, and_true]
  apply List.ext_getElem?
  intro i
  simp only [List.getElem?_modify, List.getElem?_mapIdx]
  cases h : s.secs[i]? with
  | none => simp
  | some x =>
    by_cases hk : k = i
    · subst hk; simp
    · by_cases hl : i < k
      · have : i < k + 1 := by omega
        simp [hk, hl, this]
      · have : ¬ i < k + 1 := by omega
        simp [hk, hl, this]

theorem DiskAt.syn {w : World} {d L i : Nat} {xs : List SecV} {s : Dsk} {x : SecV} (h : DiskAt w d L xs s) (hx : xs[i]? = some x) :
    DiskAt ((w.setCell ⟨L, i * 3 + 1, none⟩ x.1).setCell ⟨L, i * 3 + 2, none⟩ (.bool false)) d L (xs.set i (x.1, x.1, false)) { s with secs := s.secs.modify i Sec.sync } := by
  have hi : i < xs.length := (List.getElem?_eq_some_iff.1 hx).1
  have ht1 : Turn [L] w ((w.setCell ⟨L, i * 3 + 1, none⟩ x.1).setCell ⟨L, i * 3 + 2, none⟩ (.bool false)) :=
    ((Turn.refl _ _).setCell (.inl (by simp)) _).setCell (.inl (by simp)) _
  refine h.sec ht1 ?_ (by simp) ⟨by simp [h.2.2.1.1], ?_⟩
  · have hb := (h.2.1.set_ (i * 3 + 1) x.1).set_ (i * 3 + 2) (.bool false)
    rw [List.setIfInBounds_toArray, List.setIfInBounds_toArray, (encS_set xs i x hx x.1 true).2.1,
      (encS_set _ i (x.1, x.1, x.2.2) (by simp [hi]) (.bool false) false).2.2, List.set_set] at hb
    exact hb
  · have ne : ∀ {v : Value} {o : Option (List UInt8)}, Byt w v o → ∀ k, v.ownBlock = some k → k ∉ [L] := by
      intro v o hv k hk hm
      simp at hm; subst hm
      exact hv.ne h.2.1 (by decide) hk
    intro j y z hy hz
    simp only [List.getElem?_modify] at hz
    rw [List.getElem?_set] at hy
    by_cases hj : i = j
    · subst hj
      rw [if_pos rfl, if_pos hi] at hy
      cases hy
      cases hs : s.secs[i]? with
      | none => rw [hs] at hz; cases hz
      | some z0 =>
        rw [hs] at hz
        cases hz
        obtain ⟨a, b, c1, c2, c3⟩ := h.2.2.1.2 i x z0 hx hs
        simp only [if_true, Sec.sync]
        exact ⟨a.turn ht1 (ne a), a.turn ht1 (ne a), by simp, c2, c2⟩
    · rw [if_neg hj] at hy
      simp only [if_neg hj, Option.map_eq_map, Option.map_id'] at hz
      obtain ⟨a, b, c1⟩ := h.2.2.1.2 j y z hy (by simpa using hz)
      exact ⟨a.turn ht1 (ne a), b.turn ht1 (ne b), c1⟩

theorem sync_nil (w : World) : Calls Tryd.prog 31 #[.pointer none] w fun e w' => e = .returned (.bool false) ∧ w = w' := by
  go_enter Tryd.func31, Tryd.ntmps31
  go_wp2_with (go_at_call 37; refine (dead_nil _).mono ?_; rintro e w' ⟨rfl, rfl⟩)
  go_ret
  exact ⟨rfl, rfl⟩
theorem sync_dead (d L : Nat) (xs : List SecV) (s : Dsk) (w : World) (h : DiskAt w d L xs s) (hd : s.dead = true) : Calls Tryd.prog 31 #[.pointer (some ⟨d, 0, none⟩)] w fun e w' => e = .returned (.bool false) ∧ w = w' := by
  have hD := dead_any d L xs s w h
  rw [hd] at hD
  clear h hd
  go_enter Tryd.func31, Tryd.ntmps31
  go_wp2_with (go_at_call 37; refine hD.mono ?_; rintro e w' ⟨rfl, rfl⟩)
  go_ret
  exact ⟨rfl, rfl⟩
set_option maxHeartbeats 2000000 in
theorem sync_any (d L : Nat) (xs : List SecV) (s : Dsk) (w : World) (h : DiskAt w d L xs s) (hdead : s.dead = false)
    (hc : s.count < 1000000) (hf : s.fused = true → 1 ≤ s.left ∧ s.left ≤ 9223372036854775807) :
    Calls Tryd.prog 31 #[.pointer (some ⟨d, 0, none⟩)] w fun e w' =>
      e = .returned (.bool true) ∧ (∃ ys, DiskAt w' d L ys (Dsk.done { s with secs := s.secs.map Sec.sync })) ∧ Turn [d, L] w w' := by
  have h0 := h.1.cell 0
  simp at h0
  have hD := dead_any d L xs s w h
  rw [hdead] at hD
  have hlen := h.2.2.2.2
  have HF := Lib.hid hf
  clear hf hdead
  go_enter Tryd.func31, Tryd.ntmps31
  go_wp2_with (go_at_call 37; refine hD.mono ?_; rintro e w' ⟨rfl, rfl⟩)
  clear h0
  go_loopw [11] (fun i wr => ∃ (k : Nat) (ys : List SecV), k ≤ s.secs.length ∧ i = .int .i64 k ∧ DiskAt wr d L ys (s.syncTo k) ∧ Turn [L] w wr) (fun i _ => s.secs.length - (intOf i).toNat)
  case atStart => exact ⟨0, xs, by omega, rfl, by rw [Dsk.syncTo_zero]; exact h, Turn.refl _ _⟩
  case round =>
    obtain ⟨k, ys, hk, rfl, hA, hT⟩ := hrel
    have hlk : (s.syncTo k).secs.length = s.secs.length := by simp [Dsk.syncTo]
    have g0 := hA.1.cell 0
    simp [hlk] at g0
    by_cases hlt : k < s.secs.length
    · obtain ⟨x, hx⟩ : ∃ x, ys[k]? = some x := ⟨_, List.getElem?_eq_getElem (by rw [hA.2.2.1.1, hlk]; exact hlt)⟩
      have h1 := hA.2.1.cell (k * 3)
      rw [List.getElem?_toArray, (encS_get ys k x hx).1] at h1
      have h2 := hA.2.1.cell (k * 3 + 1)
      rw [List.getElem?_toArray, (encS_get ys k x hx).2.1] at h2
      have h3 := hA.2.1.cell (k * 3 + 2)
      rw [List.getElem?_toArray, (encS_get ys k x hx).2.2] at h3
      have f2 := hA.2.1.frozen (k * 3 + 1)
      have f3 := hA.2.1.frozen (k * 3 + 2)
      have hP := hA.syn hx
      rw [Dsk.syncTo_succ] at hP
      have hdL : d ≠ L := hA.1.ne_ hA.2.1 (by decide)
      obtain ⟨A, n, c, hxs⟩ : ∃ A n c, x.1 = .slice A n c := by
        obtain ⟨z, hz⟩ : ∃ z, (s.syncTo k).secs[k]? = some z := ⟨_, List.getElem?_eq_getElem (by rw [hlk]; exact hlt)⟩
        exact (hA.2.2.1.2 k x z hx hz).1.slice
      rw [hxs] at h1 hP
      have hki : (k : Int) < s.secs.length := by omega
      have hk0 : (0 : Int) ≤ k := by omega
      have hT2 := (hT.setCell (p := ⟨L, k * 3 + 1, none⟩) (.inl (by simp)) (.slice A n c)).setCell (p := ⟨L, k * 3 + 2, none⟩) (.inl (by simp)) (.bool false)
      clear hA hx hxs hT hlk h hD
      have HP := Lib.hid hP
      have e1 := fun (w : World) (v : Value) => cell_off w (L := L) (k * 3 + 1) (k * 3) v (by omega)
      have e2 := fun (w : World) (v : Value) => cell_off w (L := L) (k * 3 + 2) (k * 3) v (by omega)
      have e3 := fun (w : World) (i j : Nat) (v : Value) => cell_far w i j v hdL
      clear hP
      go_wp2
      go_region_held3 (fun w' => w'.cell? ⟨d, 0, none⟩ = some (.slice (some ⟨L, 0, none⟩) s.secs.length s.secs.length) ∧ w'.cell? ⟨L, k * 3, none⟩ = some (.slice A n c)) (go_keep) (first | fail)
      have HT := Lib.hid hT2
      clear hT2 e1 e2 e3 h1 h2 h3 f2 f3 g0
      go_wp2
      go_roundw
      case rel => exact ⟨k + 1, _, by omega, by go_num, HP.out, HT.out.drew⟩
      case measure => simp [intOf]; omega
    · obtain rfl : k = s.secs.length := by omega
      rw [Dsk.syncTo_all] at hA
      have hq : ¬ ((s.secs.length : Int) < s.secs.length) := by omega
      clear hlt h hD
      have HD := Lib.hid (done_any d L _ _ _ hA hc HF.out)
      clear hA g0 hlk
      go_wp2_with (go_at_call 43; refine HD.out.mono ?_; rintro e w' ⟨rfl, hA2, hB⟩)
      go_ret
      exact ⟨rfl, ⟨_, hA2⟩, (hT.more (by simp)).trans hB (fun x hx => .inl (by simp at hx; simp [hx]))⟩
end Go.Proofs.YtomngfihaohgdaaDoor
