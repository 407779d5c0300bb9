/-
  Contracts of disk.Crash.
-/
import Derived.Test.YtomngfihaohgdaaDoorDisk7
namespace Go.Proofs.YtomngfihaohgdaaDoor
open Go.RowKit

def Sec.left (x : Sec) (kp : Bool) : Option (List UInt8) := if x.dirty && kp then x.now else x.syn
def crashTo (s : Dsk) (kp : Nat → Bool) (k : Nat) : Dsk :=
  { Dsk.new s.secs.length with secs := s.secs.mapIdx fun i x => if i < k then ⟨x.left (kp i), x.left (kp i), false⟩ else ⟨none, none, false⟩ }
theorem crashTo_zero (s : Dsk) (kp : Nat → Bool) : crashTo s kp 0 = Dsk.new s.secs.length := by
  simp only [crashTo, Dsk.new, Dsk.mk.injEq, and_true]
  apply List.ext_getElem? ; intro i
  simp [List.getElem?_replicate]
  by_cases hn : i < s.secs.length <;> simp [hn]
theorem crashTo_succ (s : Dsk) (kp : Nat → Bool) (k : Nat) (h : k < s.secs.length) :
    { crashTo s kp k with secs := (crashTo s kp k).secs.set k ⟨s.secs[k].left (kp k), s.secs[k].left (kp k), false⟩ } = crashTo s kp (k + 1) := by
  simp only [crashTo, Dsk.mk.injEq, and_true]
  apply List.ext_getElem? ; intro i
  rw [List.getElem?_set]
  simp only [List.getElem?_mapIdx, List.length_mapIdx]
  by_cases hk : k = i
  · subst hk
    simp [h]
  · by_cases hn : i < s.secs.length
    · by_cases hl : i < k
      · have : i < k + 1 := by omega
        simp [hk, hn, hl, this]
      · have : ¬ i < k + 1 := by omega
        simp [hk, hn, hl, this]
    · simp [hk, hn]

theorem crash_nil (K : Value) (w : World) : Calls Tryd.prog 15 #[.pointer none, K] w fun e w' => e = .returned (.pointer none) ∧ w = w' := by
  go_enter Tryd.func15, Tryd.ntmps15
  go_wp2
  go_ret
  exact ⟨rfl, rfl⟩

theorem neqNilKeep (kf : Nat) (caps : Array Value) (w : World) : (binOp .neq 55 (.func (.func kf) #[] caps) .nilFunc).run Tryd.prog w = .ok (.bool true) w := by kernel_rfl

/-- What the function that a crash asks does: kp says what it answers; J is what it keeps in mind; S are the blocks that it writes. -/
structure Asks (kf : Nat) (caps : Array Value) (s : Dsk) (kp : Nat → Bool) (B0 : Nat) (S : List Nat) (J : Nat → World → Prop) : Prop where
  enters : ∀ args w, (callFunc kf args).run Tryd.prog w = .ok (.enter kf args) w
  abide : ∀ k w1 w2, J k w1 → (∀ j, j < B0 → w2.heap[j]? = w1.heap[j]?) → J k w2
  typed : ∀ k w1, J k w1 → ∀ g ∈ S, ∃ t cs, Blk w1 g t cs ∧ t ≠ 5
  skip : ∀ k w1, (h : k < s.secs.length) → s.secs[k].dirty = false → J k w1 → J (k + 1) w1
  ask : ∀ k w1, (h : k < s.secs.length) → s.secs[k].dirty = true → J k w1 → Calls Tryd.prog kf (#[.int .i64 k] ++ caps) w1 fun e w' => e = .returned (.bool (kp k)) ∧ J (k + 1) w' ∧ Turn S w1 w'

theorem three_turn (w : World) (L i : Nat) (a b c : Value) : Turn [L] w (((w.setCell ⟨L, i, none⟩ a).setCell ⟨L, i + 1, none⟩ b).setCell ⟨L, i + 2, none⟩ c) :=
  (((Turn.refl _ _).setCell (.inl (by simp)) _).setCell (.inl (by simp)) _).setCell (.inl (by simp)) _

theorem crash_round {w w2 : World} {d L kf k : Nat} {caps : Array Value} {xs ys : List SecV} {s : Dsk} {kp : Nat → Bool} {S : List Nat} {J : Nat → World → Prop} {y : SecV} {v : Value}
    (hA : Asks kf caps s kp w.heap.size S J) (h3 : DiskAt w2 (w.heap.size + 1) w.heap.size ys (crashTo s kp k)) (hy : ys[k]? = some y) (hk : k < s.secs.length)
    (hv : Byt w2 v (s.secs[k].left (kp k))) (hl : ∀ l, s.secs[k].left (kp k) = some l → l.length = 256) (h2 : DiskAt w2 d L xs s) (hd : d < w.heap.size) (hL : L < w.heap.size)
    (hJ : J (k + 1) w2) (hT : Turn S w w2) :
    DiskAt (((w2.setCell ⟨w.heap.size, k * 3, none⟩ v).setCell ⟨w.heap.size, k * 3 + 1, none⟩ v).setCell ⟨w.heap.size, k * 3 + 2, none⟩ (.bool false)) (w.heap.size + 1) w.heap.size (ys.set k (v, v, false)) (crashTo s kp (k + 1)) ∧
    DiskAt (((w2.setCell ⟨w.heap.size, k * 3, none⟩ v).setCell ⟨w.heap.size, k * 3 + 1, none⟩ v).setCell ⟨w.heap.size, k * 3 + 2, none⟩ (.bool false)) d L xs s ∧
    J (k + 1) (((w2.setCell ⟨w.heap.size, k * 3, none⟩ v).setCell ⟨w.heap.size, k * 3 + 1, none⟩ v).setCell ⟨w.heap.size, k * 3 + 2, none⟩ (.bool false)) ∧
    Turn S w (((w2.setCell ⟨w.heap.size, k * 3, none⟩ v).setCell ⟨w.heap.size, k * 3 + 1, none⟩ v).setCell ⟨w.heap.size, k * 3 + 2, none⟩ (.bool false)) := by
  have hB := h3.both hy hv hl
  rw [crashTo_succ s kp k hk] at hB
  have hTn := three_turn w2 w.heap.size (k * 3) v v (.bool false)
  refine ⟨hB, h2.turn hTn (by simp; omega) (by simp; omega) ?_, hA.abide _ _ _ hJ ?_, hT.trans hTn (fun x hx => .inr (by simp at hx; omega))⟩
  · intro g hg
    simp at hg; subst hg
    exact ⟨_, _, h3.2.1, by decide⟩
  · intro j hj
    exact hTn.block j (Nat.lt_of_lt_of_le hj hT.size) (by simp; omega)

set_option maxHeartbeats 2000000 in
theorem crash_any (d L kf : Nat) (caps : Array Value) (xs : List SecV) (s : Dsk) (kp : Nat → Bool) (S : List Nat) (J : Nat → World → Prop) (w : World) (h : DiskAt w d L xs s)
    (hA : Asks kf caps s kp w.heap.size S J) (h0 : J 0 w) (hd : d ∉ S) (hL : L ∉ S) (hlS : ∀ g ∈ S, g < w.heap.size) :
    Calls Tryd.prog 15 #[.pointer (some ⟨d, 0, none⟩), .func (.func kf) #[] caps] w fun e w' =>
      e = .returned (.pointer (some ⟨w.heap.size + 1, 0, none⟩)) ∧ (∃ ys, DiskAt w' (w.heap.size + 1) w.heap.size ys (crashTo s kp s.secs.length)) ∧ J s.secs.length w' ∧ Turn S w w' := by
  have hN := Lib.hid (new_in s.secs.length h.2.2.2.1 h.2.2.2.2 w)
  have hn := h.2.2.2.2
  have g0 := h.1.cell 0
  simp at g0
  go_enter Tryd.func15, Tryd.ntmps15
  go_wp2_with (go_at_call 20; refine hN.out.mono ?_; rintro e w1 ⟨rfl, hA1, hb⟩; have g1 := (hb.cell (p := ⟨d, 0, none⟩) h.1.lt).trans g0)
  have hdl := h.1.lt
  have hLl := h.2.1.lt
  have hb0 : w.heap.size + 1 < w1.heap.size := hA1.1.lt
  have h1 := h.below hb
  have hJ1 := hA.abide 0 w w1 h0 hb.block
  have hT1 : Turn S w w1 := Turn.of_below _ hb
  clear hN g0 g1
  go_loopw [22] (fun i wr => ∃ (k : Nat) (ys : List SecV), k ≤ s.secs.length ∧ i = .int .i64 k ∧ DiskAt wr (w.heap.size + 1) w.heap.size ys (crashTo s kp k) ∧ DiskAt wr d L xs s ∧ J k wr ∧ Turn S w wr)
    (fun i _ => s.secs.length - (intOf i).toNat)
  case atStart => exact ⟨0, _, by omega, rfl, by rw [crashTo_zero]; exact hA1, h1, hJ1, hT1⟩
  case round =>
    obtain ⟨k, ys, hk, rfl, hA2, h2, hJ, hT⟩ := hrel
    have hlk := Lib.hid (show (crashTo s kp k).secs.length = s.secs.length by simp [crashTo, Dsk.new])
    clear hA1 h1 hJ1 hT1
    by_cases hlt : k < s.secs.length
    · have hki : (k : Int) < s.secs.length := by omega
      obtain ⟨y, hy⟩ : ∃ y, ys[k]? = some y := ⟨_, List.getElem?_eq_getElem (by rw [hA2.2.2.1.1, hlk.out]; exact hlt)⟩
      obtain ⟨x, hx⟩ : ∃ x, xs[k]? = some x := ⟨_, List.getElem?_eq_getElem (by rw [h2.2.2.1.1]; exact hlt)⟩
      have hs := h2.2.2.1.2 k x _ hx (List.getElem?_eq_getElem hlt)
      obtain ⟨A1, n1, c1, e1⟩ := hs.1.slice
      obtain ⟨A2, n2, c2, e2⟩ := hs.2.1.slice
      have r0 := h2.2.1.cell (k * 3)
      rw [List.getElem?_toArray, (encS_get xs k x hx).1, e1] at r0
      have r1 := h2.2.1.cell (k * 3 + 1)
      rw [List.getElem?_toArray, (encS_get xs k x hx).2.1, e2] at r1
      have r2 := h2.2.1.cell (k * 3 + 2)
      rw [List.getElem?_toArray, (encS_get xs k x hx).2.2] at r2
      have hbyt1 := Lib.hid hs.1
      have hbyt2 := Lib.hid hs.2.1
      have hl1 := Lib.hid hs.2.2.2.1
      have hl2 := Lib.hid hs.2.2.2.2
      have hdd := hs.2.2.1
      rw [e1] at hbyt1
      rw [e2] at hbyt2
      have HX := Lib.hid hx
      have HY := Lib.hid hy
      have HA2 := Lib.hid hA2
      have H2 := Lib.hid h2
      clear hs hx hy hA2 h2 e1 e2
      have hww : w.heap.size + 1 < wr.heap.size := HA2.out.1.lt
      have hww0 : w.heap.size < wr.heap.size := by omega
      cases hdb : s.secs[k].dirty with
      | false =>
        rw [hdb] at hdd
        rw [hdd] at r2
        have HD := Lib.hid hdb
        clear hdd hdb
        have q0 := HA2.out.1.cell 0
        simp [hlk.out] at q0
        have s0 := HA2.out.2.1.cell (k * 3)
        rw [List.getElem?_toArray, (encS_get ys k y HY.out).1] at s0
        have s1 := HA2.out.2.1.cell (k * 3 + 1)
        rw [List.getElem?_toArray, (encS_get ys k y HY.out).2.1] at s1
        have s2 := HA2.out.2.1.cell (k * 3 + 2)
        rw [List.getElem?_toArray, (encS_get ys k y HY.out).2.2] at s2
        have f0 := HA2.out.2.1.frozen (k * 3)
        have f1 := HA2.out.2.1.frozen (k * 3 + 1)
        have f2 := HA2.out.2.1.frozen (k * 3 + 2)
        go_wp2
        go_roundw
        case rel =>
          have hlf : s.secs[k].left (kp k) = s.secs[k].syn := by simp [Sec.left, HD.out]
          obtain ⟨z1, z2, z3, z4⟩ := crash_round hA HA2.out HY.out hlt (by rw [hlf]; exact hbyt2.out) (by rw [hlf]; exact hl2.out) H2.out hdl hLl (hA.skip k wr hlt HD.out hJ) hT
          have hal := (Below.refl (((wr.setCell ⟨w.heap.size, k * 3, none⟩ (.slice A2 n2 c2)).setCell ⟨w.heap.size, k * 3 + 1, none⟩ (.slice A2 n2 c2)).setCell ⟨w.heap.size, k * 3 + 2, none⟩ (.bool false)).heap.size _).alloc (Nat.le_refl _) (.cells #[.slice A1 n1 c1, .slice A2 n2 c2, .bool false] 69)
          exact ⟨k + 1, _, by omega, by go_num, z1.below hal, z2.below hal, hA.abide _ _ _ z3 (fun j hj => hal.block j (Nat.lt_of_lt_of_le hj z4.size)), z4.alloc _⟩
        case measure => simp [intOf]; omega
      | true =>
        rw [hdb] at hdd
        rw [hdd] at r2
        have HD := Lib.hid hdb
        clear hdd hdb
        have hal := (Below.refl wr.heap.size wr).alloc (Nat.le_refl _) (.cells #[.slice A1 n1 c1, .slice A2 n2 c2, .bool true] 69)
        have hJ' := hA.abide k wr (wr.alloc (.cells #[.slice A1 n1 c1, .slice A2 n2 c2, .bool true] 69)) hJ (fun j hj => hal.block j (by omega))
        have hC := hA.ask k _ hlt HD.out hJ'
        have htyp := hA.typed k _ hJ'
        have hEN0 := Lib.hid hA.enters
        have HT := Lib.hid hT
        have HJ := Lib.hid hJ'
        have Hal := Lib.hid hal
        have HAs := Lib.hid hA
        clear hJ hJ' hal hT hA
        have hNE := neqNilKeep kf caps
        have hEN := hEN0.out
        cases hkp : kp k with
        | true =>
          rw [hkp] at hC
          have HKP := Lib.hid hkp
          have HC := Lib.hid hC
          clear hkp hC
          go_wp2_with ((with_reducible refine HC.out.mono ?_); rintro e w2 ⟨rfl, hJ2, hT2⟩; have HJ2 := Lib.hid hJ2; have HT2 := Lib.hid hT2; clear hJ2 hT2; have HA3 := Lib.hid ((HA2.out.below Hal.out).turn HT2.out (fun hm => by have := hlS _ hm; omega) (fun hm => by have := hlS _ hm; omega) htyp); have q0 := HA3.out.1.cell 0; simp [hlk.out] at q0; have s0 := HA3.out.2.1.cell (k * 3); rw [List.getElem?_toArray, (encS_get ys k y HY.out).1] at s0; have s1 := HA3.out.2.1.cell (k * 3 + 1); rw [List.getElem?_toArray, (encS_get ys k y HY.out).2.1] at s1; have s2 := HA3.out.2.1.cell (k * 3 + 2); rw [List.getElem?_toArray, (encS_get ys k y HY.out).2.2] at s2; have f0 := HA3.out.2.1.frozen (k * 3); have f1 := HA3.out.2.1.frozen (k * 3 + 1); have f2 := HA3.out.2.1.frozen (k * 3 + 2); have b0 := ((Blk.new wr 69 #[.slice A1 n1 c1, .slice A2 n2 c2, .bool true]).turn HT2.out (fun hm => by have := hlS _ hm; omega)).cell 0; simp at b0)
          go_roundw
          case rel =>
            have hlf : s.secs[k].left (kp k) = s.secs[k].now := by simp [Sec.left, HD.out, HKP.out]
            have hbv : Byt w2 (.slice A1 n1 c1) s.secs[k].now := (hbyt1.out.below Hal.out).turn HT2.out (fun g hg hm => by obtain ⟨t, cs, hb1, hb2⟩ := htyp g hm; exact (hbyt1.out.below Hal.out).ne hb1 hb2 hg)
            obtain ⟨z1, z2, z3, z4⟩ := crash_round HAs.out HA3.out HY.out hlt (by rw [hlf]; exact hbv) (by rw [hlf]; exact hl1.out) ((H2.out.below Hal.out).turn HT2.out hd hL htyp) hdl hLl HJ2.out ((HT.out.alloc _).trans HT2.out (fun x hx => .inl hx))
            exact ⟨k + 1, _, by omega, by go_num, z1, z2, z3, z4⟩
          case measure => simp [intOf]; omega
        | false =>
          rw [hkp] at hC
          have HKP := Lib.hid hkp
          have HC := Lib.hid hC
          clear hkp hC
          go_wp2_with ((with_reducible refine HC.out.mono ?_); rintro e w2 ⟨rfl, hJ2, hT2⟩; have HJ2 := Lib.hid hJ2; have HT2 := Lib.hid hT2; clear hJ2 hT2; have HA3 := Lib.hid ((HA2.out.below Hal.out).turn HT2.out (fun hm => by have := hlS _ hm; omega) (fun hm => by have := hlS _ hm; omega) htyp); have q0 := HA3.out.1.cell 0; simp [hlk.out] at q0; have s0 := HA3.out.2.1.cell (k * 3); rw [List.getElem?_toArray, (encS_get ys k y HY.out).1] at s0; have s1 := HA3.out.2.1.cell (k * 3 + 1); rw [List.getElem?_toArray, (encS_get ys k y HY.out).2.1] at s1; have s2 := HA3.out.2.1.cell (k * 3 + 2); rw [List.getElem?_toArray, (encS_get ys k y HY.out).2.2] at s2; have f0 := HA3.out.2.1.frozen (k * 3); have f1 := HA3.out.2.1.frozen (k * 3 + 1); have f2 := HA3.out.2.1.frozen (k * 3 + 2); have b0 := ((Blk.new wr 69 #[.slice A1 n1 c1, .slice A2 n2 c2, .bool true]).turn HT2.out (fun hm => by have := hlS _ hm; omega)).cell 0; simp at b0)
          go_roundw
          case rel =>
            have hlf : s.secs[k].left (kp k) = s.secs[k].syn := by simp [Sec.left, HD.out, HKP.out]
            have hbv : Byt w2 (.slice A2 n2 c2) s.secs[k].syn := (hbyt2.out.below Hal.out).turn HT2.out (fun g hg hm => by obtain ⟨t, cs, hb1, hb2⟩ := htyp g hm; exact (hbyt2.out.below Hal.out).ne hb1 hb2 hg)
            obtain ⟨z1, z2, z3, z4⟩ := crash_round HAs.out HA3.out HY.out hlt (by rw [hlf]; exact hbv) (by rw [hlf]; exact hl2.out) ((H2.out.below Hal.out).turn HT2.out hd hL htyp) hdl hLl HJ2.out ((HT.out.alloc _).trans HT2.out (fun x hx => .inl hx))
            exact ⟨k + 1, _, by omega, by go_num, z1, z2, z3, z4⟩
          case measure => simp [intOf]; omega
    · obtain rfl : k = s.secs.length := by omega
      have hq : ¬ ((s.secs.length : Int) < s.secs.length) := by omega
      have HA2 := Lib.hid hA2
      clear hA2 hlt hlk h2
      go_wp2
      go_ret
      exact ⟨rfl, ⟨_, HA2.out⟩, hJ, hT⟩
end Go.Proofs.YtomngfihaohgdaaDoor
