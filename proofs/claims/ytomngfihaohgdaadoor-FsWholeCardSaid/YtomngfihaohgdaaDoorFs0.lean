/-
  disk: a crash that keeps nothing.
-/
import Derived.Test.YtomngfihaohgdaaDoorFsP
namespace Go.Proofs.YtomngfihaohgdaaDoor
set_option maxRecDepth 100000
open Go.RowKit

theorem neqNilNil (w : World) : (binOp .neq 55 .nilFunc .nilFunc).run Tryd.prog w = .ok (.bool false) w := by kernel_rfl
theorem crash_round0 {w w2 : World} {d L k : Nat} {xs ys : List SecV} {s : Dsk} {kp : Nat → Bool} {S : List Nat} {y : SecV} {v : Value}
    (h3 : DiskAt w2 (w.heap.size + 1) w.heap.size ys (crashTo s kp k)) (hy : ys[k]? = some y) (hk : k < s.secs.length)
    (hv : Byt w2 v (s.secs[k].left (kp k))) (hl : ∀ l, s.secs[k].left (kp k) = some l → l.length = 256) (h2 : DiskAt w2 d L xs s) (hd : d < w.heap.size) (hL : L < w.heap.size) (hT : Turn S w w2) :
    DiskAt (((w2.setCell ⟨w.heap.size, k * 3, none⟩ v).setCell ⟨w.heap.size, k * 3 + 1, none⟩ v).setCell ⟨w.heap.size, k * 3 + 2, none⟩ (.bool false)) (w.heap.size + 1) w.heap.size (ys.set k (v, v, false)) (crashTo s kp (k + 1)) ∧
    DiskAt (((w2.setCell ⟨w.heap.size, k * 3, none⟩ v).setCell ⟨w.heap.size, k * 3 + 1, none⟩ v).setCell ⟨w.heap.size, k * 3 + 2, none⟩ (.bool false)) d L xs s ∧
    Turn S w (((w2.setCell ⟨w.heap.size, k * 3, none⟩ v).setCell ⟨w.heap.size, k * 3 + 1, none⟩ v).setCell ⟨w.heap.size, k * 3 + 2, none⟩ (.bool false)) := by
  have hB := h3.both hy hv hl
  rw [crashTo_succ s kp k hk] at hB
  have hTn := three_turn w2 w.heap.size (k * 3) v v (.bool false)
  refine ⟨hB, h2.turn hTn (by simp; omega) (by simp; omega) ?_, hT.trans hTn (fun x hx => .inr (by simp at hx; omega))⟩
  intro g hg
  simp at hg; subst hg
  exact ⟨_, _, h3.2.1, by decide⟩
set_option maxHeartbeats 2000000 in
theorem crash_lost (d L : Nat) (xs : List SecV) (s : Dsk) (w : World) (h : DiskAt w d L xs s) :
    Calls Tryd.prog 15 #[.pointer (some ⟨d, 0, none⟩), .nilFunc] w fun e w' =>
      e = .returned (.pointer (some ⟨w.heap.size + 1, 0, none⟩)) ∧ (∃ ys, DiskAt w' (w.heap.size + 1) w.heap.size ys (s.crash fun _ => false)) ∧ Below w.heap.size w w' := by
  obtain ⟨kp, hkp⟩ : ∃ kp : Nat → Bool, (fun _ => false) = kp := ⟨_, rfl⟩
  unfold Dsk.crash
  rw [hkp]
  have HKP := Lib.hid hkp.symm
  clear hkp
  have hN := Lib.hid (new_in s.secs.length h.2.2.2.1 h.2.2.2.2 w)
  have hn := h.2.2.2.2
  have g0 := h.1.cell 0
  simp at g0
  go_enter Tryd.func15, Tryd.ntmps15
  go_wp2_with (go_at_call 20; refine hN.out.mono ?_; rintro e w1 ⟨rfl, hA1, hb⟩; have g1 := (hb.cell (p := ⟨d, 0, none⟩) h.1.lt).trans g0)
  have hdl := h.1.lt
  have hLl := h.2.1.lt
  have hb0 : w.heap.size + 1 < w1.heap.size := hA1.1.lt
  have h1 := h.below hb
  have hT1 : Turn [] w w1 := Turn.of_below _ hb
  clear hN g0 g1
  go_loopw [22] (fun i wr => ∃ (k : Nat) (ys : List SecV), k ≤ s.secs.length ∧ i = .int .i64 k ∧ DiskAt wr (w.heap.size + 1) w.heap.size ys (crashTo s kp k) ∧ DiskAt wr d L xs s ∧ Turn [] w wr)
    (fun i _ => s.secs.length - (intOf i).toNat)
  case atStart => exact ⟨0, _, by omega, rfl, by rw [crashTo_zero]; exact hA1, h1, hT1⟩
  case round =>
    obtain ⟨k, ys, hk, rfl, hA2, h2, hT⟩ := hrel
    have hlk := Lib.hid (show (crashTo s kp k).secs.length = s.secs.length by simp [crashTo, Dsk.new])
    clear hA1 h1 hT1
    by_cases hlt : k < s.secs.length
    · have hki : (k : Int) < s.secs.length := by omega
      obtain ⟨y, hy⟩ : ∃ y, ys[k]? = some y := ⟨_, List.getElem?_eq_getElem (by rw [hA2.2.2.1.1, hlk.out]; exact hlt)⟩
      obtain ⟨x, hx⟩ : ∃ x, xs[k]? = some x := ⟨_, List.getElem?_eq_getElem (by rw [h2.2.2.1.1]; exact hlt)⟩
      have hs := h2.2.2.1.2 k x _ hx (List.getElem?_eq_getElem hlt)
      obtain ⟨A1, n1, c1, e1⟩ := hs.1.slice
      obtain ⟨A2, n2, c2, e2⟩ := hs.2.1.slice
      have r0 := h2.2.1.cell (k * 3)
      rw [List.getElem?_toArray, (encS_get xs k x hx).1, e1] at r0
      have r1 := h2.2.1.cell (k * 3 + 1)
      rw [List.getElem?_toArray, (encS_get xs k x hx).2.1, e2] at r1
      have r2 := h2.2.1.cell (k * 3 + 2)
      rw [List.getElem?_toArray, (encS_get xs k x hx).2.2] at r2
      have hbyt1 := Lib.hid hs.1
      have hbyt2 := Lib.hid hs.2.1
      have hl1 := Lib.hid hs.2.2.2.1
      have hl2 := Lib.hid hs.2.2.2.2
      have hdd := hs.2.2.1
      rw [e1] at hbyt1
      rw [e2] at hbyt2
      have HX := Lib.hid hx
      have HY := Lib.hid hy
      have HA2 := Lib.hid hA2
      have H2 := Lib.hid h2
      clear hs hx hy hA2 h2 e1 e2
      have hww : w.heap.size + 1 < wr.heap.size := HA2.out.1.lt
      have hww0 : w.heap.size < wr.heap.size := by omega
      cases hdb : s.secs[k].dirty with
      | false =>
        rw [hdb] at hdd
        rw [hdd] at r2
        clear hdd hdb
        have q0 := HA2.out.1.cell 0
        simp [hlk.out] at q0
        have s0 := HA2.out.2.1.cell (k * 3)
        rw [List.getElem?_toArray, (encS_get ys k y HY.out).1] at s0
        have s1 := HA2.out.2.1.cell (k * 3 + 1)
        rw [List.getElem?_toArray, (encS_get ys k y HY.out).2.1] at s1
        have s2 := HA2.out.2.1.cell (k * 3 + 2)
        rw [List.getElem?_toArray, (encS_get ys k y HY.out).2.2] at s2
        have f0 := HA2.out.2.1.frozen (k * 3)
        have f1 := HA2.out.2.1.frozen (k * 3 + 1)
        have f2 := HA2.out.2.1.frozen (k * 3 + 2)
        go_wp2
        go_roundw
        case rel =>
          have hlf : s.secs[k].left (kp k) = s.secs[k].syn := by rw [HKP.out]; simp [Sec.left]
          obtain ⟨z1, z2, z4⟩ := crash_round0 HA2.out HY.out hlt (by rw [hlf]; exact hbyt2.out) (by rw [hlf]; exact hl2.out) H2.out hdl hLl hT
          have hal := (Below.refl (((wr.setCell ⟨w.heap.size, k * 3, none⟩ (.slice A2 n2 c2)).setCell ⟨w.heap.size, k * 3 + 1, none⟩ (.slice A2 n2 c2)).setCell ⟨w.heap.size, k * 3 + 2, none⟩ (.bool false)).heap.size _).alloc (Nat.le_refl _) (.cells #[.slice A1 n1 c1, .slice A2 n2 c2, .bool false] 69)
          exact ⟨k + 1, _, by omega, by go_num, z1.below hal, z2.below hal, z4.alloc _⟩
        case measure => simp [intOf]; omega
      | true =>
        have hNE := neqNilNil
        rw [hdb] at hdd
        rw [hdd] at r2
        clear hdd hdb
        have q0 := HA2.out.1.cell 0
        simp [hlk.out] at q0
        have s0 := HA2.out.2.1.cell (k * 3)
        rw [List.getElem?_toArray, (encS_get ys k y HY.out).1] at s0
        have s1 := HA2.out.2.1.cell (k * 3 + 1)
        rw [List.getElem?_toArray, (encS_get ys k y HY.out).2.1] at s1
        have s2 := HA2.out.2.1.cell (k * 3 + 2)
        rw [List.getElem?_toArray, (encS_get ys k y HY.out).2.2] at s2
        have f0 := HA2.out.2.1.frozen (k * 3)
        have f1 := HA2.out.2.1.frozen (k * 3 + 1)
        have f2 := HA2.out.2.1.frozen (k * 3 + 2)
        go_wp2
        go_roundw
        case rel =>
          have hlf : s.secs[k].left (kp k) = s.secs[k].syn := by rw [HKP.out]; simp [Sec.left]
          obtain ⟨z1, z2, z4⟩ := crash_round0 HA2.out HY.out hlt (by rw [hlf]; exact hbyt2.out) (by rw [hlf]; exact hl2.out) H2.out hdl hLl hT
          have hal := (Below.refl (((wr.setCell ⟨w.heap.size, k * 3, none⟩ (.slice A2 n2 c2)).setCell ⟨w.heap.size, k * 3 + 1, none⟩ (.slice A2 n2 c2)).setCell ⟨w.heap.size, k * 3 + 2, none⟩ (.bool false)).heap.size _).alloc (Nat.le_refl _) (.cells #[.slice A1 n1 c1, .slice A2 n2 c2, .bool true] 69)
          exact ⟨k + 1, _, by omega, by go_num, z1.below hal, z2.below hal, z4.alloc _⟩
        case measure => simp [intOf]; omega
    · obtain rfl : k = s.secs.length := by omega
      have hq : ¬ ((s.secs.length : Int) < s.secs.length) := by omega
      have HA2 := Lib.hid hA2
      clear hA2 hlt hlk h2
      go_wp2
      go_ret
      exact ⟨rfl, ⟨_, HA2.out⟩, hT.below⟩
end Go.Proofs.YtomngfihaohgdaaDoor
