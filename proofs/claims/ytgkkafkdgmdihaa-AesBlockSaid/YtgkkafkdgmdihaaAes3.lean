/-
  The tables of AES, in the memory of a cipher.
-/
import Derived.Test.YtgkkafkdgmdihaaAesM
namespace Go.Proofs.Ytgkkafkdgmdihaa
open Go.RowKit

def cCells (kv : Value) (bx iv : List UInt8) : Array Value := (kv :: (bx.map B ++ iv.map B)).toArray
def CAt (W : World) (c : Nat) (kv : Value) (bx iv : List UInt8) : Prop := bx.length = 256 ∧ iv.length = 256 ∧ Blk W c 42 (cCells kv bx iv)
theorem cCells_box (kv : Value) (bx iv : List UInt8) (i : Nat) (x : UInt8) (h : i < bx.length) : (cCells kv bx iv).setIfInBounds (1 + i) (B x) = cCells kv (bx.set i x) iv := by
  unfold cCells
  rw [List.setIfInBounds_toArray, Nat.add_comm, List.set_cons_succ, List.set_append_left _ _ (by simpa using h), List.map_set]
theorem cCells_inv (kv : Value) (bx iv : List UInt8) (i : Nat) (x : UInt8) (hb : bx.length = 256) : (cCells kv bx iv).setIfInBounds (257 + i) (B x) = cCells kv bx (iv.set i x) := by
  unfold cCells
  rw [List.setIfInBounds_toArray, show 257 + i = (256 + i) + 1 by omega, List.set_cons_succ, List.set_append_right _ _ (by simp; omega), List.map_set]
  simp [hb]
theorem CAt.box {W : World} {c : Nat} {kv : Value} {bx iv : List UInt8} (h : CAt W c kv bx iv) (i : Nat) (x : UInt8) (hi : i < 256) : CAt (W.setCell ⟨c, 1 + i, none⟩ (B x)) c kv (bx.set i x) iv :=
  ⟨by simp [h.1], h.2.1, by rw [← cCells_box _ _ _ _ _ (by rw [h.1]; exact hi)]; exact h.2.2.set_ _ _⟩
theorem CAt.inv {W : World} {c : Nat} {kv : Value} {bx iv : List UInt8} (h : CAt W c kv bx iv) (i : Nat) (x : UInt8) : CAt (W.setCell ⟨c, 257 + i, none⟩ (B x)) c kv bx (iv.set i x) :=
  ⟨h.1, by simp [h.2.1], by rw [← cCells_inv _ _ _ _ _ h.1]; exact h.2.2.set_ _ _⟩
theorem CAt.boxCell {W : World} {c : Nat} {kv : Value} {bx iv : List UInt8} (h : CAt W c kv bx iv) (i : Nat) (x : UInt8) (hx : bx[i]? = some x) : W.cell? ⟨c, 1 + i, none⟩ = some (B x) := by
  have hi := (List.getElem?_eq_some_iff.1 hx).1
  rw [h.2.2.cell]
  unfold cCells
  rw [List.getElem?_toArray, Nat.add_comm, List.getElem?_cons_succ, List.getElem?_append_left (by simpa using hi), List.getElem?_map, hx]
  rfl
theorem CAt.invCell {W : World} {c : Nat} {kv : Value} {bx iv : List UInt8} (h : CAt W c kv bx iv) (i : Nat) (x : UInt8) (hx : iv[i]? = some x) : W.cell? ⟨c, 257 + i, none⟩ = some (B x) := by
  rw [h.2.2.cell]
  unfold cCells
  rw [List.getElem?_toArray, show 257 + i = (256 + i) + 1 by omega, List.getElem?_cons_succ, List.getElem?_append_right (by simp [h.1]), List.getElem?_map]
  simp [h.1, hx]
theorem region_turn {P : Program} {ops : Array Oper} {Q : Exit → Act → World → Prop} {id : Nat} {a : Act} {w : World} (S : List Nat) (hm : P.follows .mixedOrders = true)
    (h : ∀ wd, Old w wd → Turn S w wd → w.heap.size = wd.heap.size → wpAnyH P .any ops (NoPanic Q) (Turn S w) ops.size (Array.replicate ops.size false) a wd) : (Code.region id ops true).wp P Q a w :=
  wp_region_noPanic (wp_region_held_drew hm (Turn.of_below S (Old.drew (Old.refl w))) (fun hS => h _ (Old.drew (Old.refl w)) hS rfl))
def byteOf (v : Value) : UInt8 := UInt8.ofNat (intOf v).toNat
theorem byteOf_B (x : UInt8) : byteOf (B x) = x := by unfold byteOf B intOf; simp
/-- The table of bytes, and its inverse. -/
def boxL : List UInt8 := (List.range 256).map fun i => sb (UInt8.ofNat i)
def invL : List UInt8 := (List.range 256).map fun i => si (UInt8.ofNat i)
theorem tab_at (f : UInt8 → UInt8) (x : UInt8) : ((List.range 256).map fun i => f (UInt8.ofNat i))[x.toNat]? = some (f x) := by
  rw [List.getElem?_map, List.getElem?_range x.toNat_lt, Option.map_some, UInt8.ofNat_toNat]
theorem box_at (x : UInt8) : boxL[x.toNat]? = some (sb x) := tab_at sb x
theorem inv_at (x : UInt8) : invL[x.toNat]? = some (si x) := tab_at si x
set_option maxHeartbeats 1000000 in
/-- The first loop: what is met has its place in the table. -/
theorem tables_any (c : Nat) (kv : Value) (bx iv : List UInt8) (w : World) (h : CAt w c kv bx iv) :
    Calls Try.prog 19 #[.pointer (some ⟨c, 0, none⟩)] w fun e w' => e = .returned (.tuple #[]) ∧ CAt w' c kv boxL invL ∧ Turn [c] w w' := by
  go_enter Try.func19, Try.ntmps19
  go_wp2
  go_loopw [2, 3] (fun pv qv wr => ∃ (k : Nat) (bx : List UInt8), k < 255 ∧ pv = B (itP k) ∧ qv = B (itQ k) ∧ CAt wr c kv bx iv ∧ Turn [c] w wr ∧ ∀ j, 1 ≤ j → j ≤ k → bx[(itP j).toNat]? = some (sb (itP j))) (fun pv _ _ => 255 - mz (byteOf pv))
  case atStart => exact ⟨0, bx, by omega, rfl, rfl, h, Turn.refl _ _, fun j a b => by omega⟩
  case round =>
    obtain ⟨k, bx', hk, rfl, rfl, hC, hT, hb⟩ := hrel
    have HC := Lib.hid (And.intro hC (And.intro hT hb))
    clear hC hT hb
    have hlt := (itP (k+1)).toNat_lt
    generalize hp : itP k = p at *
    generalize hq : itQ k = q at *
    go_wp2_with (go_at_call 20; refine (twice_any _ _).mono ?_; rintro e wx ⟨rfl, rfl⟩)
    generalize hp' : p ^^^ tw p = p' at *
    generalize hq' : (q ^^^ q <<< 1 ^^^ (q ^^^ q <<< 1) <<< 2 ^^^ (q ^^^ q <<< 1 ^^^ (q ^^^ q <<< 1) <<< 2) <<< 4 ^^^ (q ^^^ q <<< 1 ^^^ (q ^^^ q <<< 1) <<< 2 ^^^ (q ^^^ q <<< 1 ^^^ (q ^^^ q <<< 1) <<< 2) <<< 4) >>> 7 * 9) = q' at *
    have hi : (p'.toNat : Int) < 256 := by have := p'.toNat_lt; omega
    refine region_turn [c] (by kernel_rfl) (fun wd hOld hHeld hSz => ?_)
    have HO := Lib.hid hOld
    clear hOld
    have HSz := Lib.hid hSz
    clear hSz
    refine takeL (i := 0) (v := ?_) rfl (by kernel_rfl) (by kernel_rfl) (by kernel_rfl) (fun _ _ _ h => h) (Or.inl ⟨by rfl, ?_⟩) hHeld ?_
    rotate_left
    focus (intro wq hSw; clear hSw; go_simp; try with_reducible rfl)
    try simp only [Act.put, List.setIfInBounds_toArray, List.set_cons_zero, List.set_cons_succ]
    refine takeL (i := 1) (v := ?_) rfl (by kernel_rfl) (by kernel_rfl) (by kernel_rfl) (fun _ _ _ h => h) (Or.inl ⟨by rfl, ?_⟩) hHeld ?_
    rotate_left
    focus (intro wq hSw; clear hSw; go_simp; try with_reducible rfl)
    try simp only [Act.put, List.setIfInBounds_toArray, List.set_cons_zero, List.set_cons_succ]
    refine takeL (i := 2) (v := ?_) rfl (by kernel_rfl) (by kernel_rfl) (by kernel_rfl) (fun _ _ _ h => h) (Or.inl ⟨by rfl, ?_⟩) hHeld ?_
    rotate_left
    focus (intro wq hSw; clear hSw; go_simp; try with_reducible rfl)
    try simp only [Act.put, List.setIfInBounds_toArray, List.set_cons_zero, List.set_cons_succ]
    refine takeL (i := 3) (v := ?_) rfl (by kernel_rfl) (by kernel_rfl) (by kernel_rfl) (fun _ _ _ h => h) (Or.inl ⟨by rfl, ?_⟩) hHeld ?_
    rotate_left
    focus (intro wq hSw; clear hSw; go_simp; try with_reducible rfl)
    try simp only [Act.put, List.setIfInBounds_toArray, List.set_cons_zero, List.set_cons_succ]
    refine takeL (i := 6) (v := ?_) rfl (by kernel_rfl) (by kernel_rfl) (by kernel_rfl) (fun _ _ _ h => h) (Or.inl ⟨by rfl, ?_⟩) hHeld ?_
    rotate_left
    focus (intro wq hSw; clear hSw; go_simp; try with_reducible rfl)
    try simp only [Act.put, List.setIfInBounds_toArray, List.set_cons_zero, List.set_cons_succ]
    refine takeL (i := 9) (v := ?_) rfl (by kernel_rfl) (by kernel_rfl) (by kernel_rfl) (fun _ _ _ h => h) (Or.inl ⟨by rfl, ?_⟩) hHeld ?_
    rotate_left
    focus (intro wq hSw; clear hSw; go_simp; try with_reducible rfl)
    try simp only [Act.put, List.setIfInBounds_toArray, List.set_cons_zero, List.set_cons_succ]
    refine takeL (i := 12) (v := ?_) rfl (by kernel_rfl) (by kernel_rfl) (by kernel_rfl) (fun _ _ _ h => h) (Or.inl ⟨by rfl, ?_⟩) hHeld ?_
    rotate_left
    focus (intro wq hSw; clear hSw; go_simp; try with_reducible rfl)
    try simp only [Act.put, List.setIfInBounds_toArray, List.set_cons_zero, List.set_cons_succ]
    refine takeL (i := 16) (v := ?_) rfl (by kernel_rfl) (by kernel_rfl) (by kernel_rfl) (fun _ _ _ h => h) (Or.inl ⟨by rfl, ?_⟩) hHeld ?_
    rotate_left
    focus (intro wq hSw; clear hSw; go_simp; try with_reducible rfl)
    try simp only [Act.put, List.setIfInBounds_toArray, List.set_cons_zero, List.set_cons_succ]
    refine takeL (i := 17) (v := ?_) rfl (by kernel_rfl) (by kernel_rfl) (by kernel_rfl) (fun _ _ _ h => h) (Or.inl ⟨by rfl, ?_⟩) hHeld ?_
    rotate_left
    focus (intro wq hSw; clear hSw; go_simp; try with_reducible rfl)
    try simp only [Act.put, List.setIfInBounds_toArray, List.set_cons_zero, List.set_cons_succ]
    refine wpAnyH_ready (rs := [4]) (by kernel_rfl) (by simp) ?_
    refine consL rfl (fun K hK => ?_) AllReadyH.nil
    go_simp
    refine (turn_any _ 1 (by omega) _).mono ?_
    rintro e wx ⟨rfl, rfl⟩
    refine hK.out _ _ (by repeat (first | exact hHeld | exact Old.refl _ | assumption | refine Old.drew ?_ | refine Old.drewN ?_ _ | refine Old.alloc ?_ _)) (fun hHeld => ?_)
    clear hK K
    try simp only [Act.put, List.setIfInBounds_toArray, List.set_cons_zero, List.set_cons_succ]
    refine takeL (i := 5) (v := ?_) rfl (by kernel_rfl) (by kernel_rfl) (by kernel_rfl) (fun _ _ _ h => h) (Or.inl ⟨by rfl, ?_⟩) hHeld ?_
    rotate_left
    focus (intro wq hSw; clear hSw; go_simp; try with_reducible rfl)
    try simp only [Act.put, List.setIfInBounds_toArray, List.set_cons_zero, List.set_cons_succ]
    refine wpAnyH_ready (rs := [7]) (by kernel_rfl) (by simp) ?_
    refine consL rfl (fun K hK => ?_) AllReadyH.nil
    go_simp
    refine (turn_any _ 2 (by omega) _).mono ?_
    rintro e wx ⟨rfl, rfl⟩
    refine hK.out _ _ (by repeat (first | exact hHeld | exact Old.refl _ | assumption | refine Old.drew ?_ | refine Old.drewN ?_ _ | refine Old.alloc ?_ _)) (fun hHeld => ?_)
    clear hK K
    try simp only [Act.put, List.setIfInBounds_toArray, List.set_cons_zero, List.set_cons_succ]
    refine takeL (i := 8) (v := ?_) rfl (by kernel_rfl) (by kernel_rfl) (by kernel_rfl) (fun _ _ _ h => h) (Or.inl ⟨by rfl, ?_⟩) hHeld ?_
    rotate_left
    focus (intro wq hSw; clear hSw; go_simp; try with_reducible rfl)
    try simp only [Act.put, List.setIfInBounds_toArray, List.set_cons_zero, List.set_cons_succ]
    refine wpAnyH_ready (rs := [10]) (by kernel_rfl) (by simp) ?_
    refine consL rfl (fun K hK => ?_) AllReadyH.nil
    go_simp
    refine (turn_any _ 3 (by omega) _).mono ?_
    rintro e wx ⟨rfl, rfl⟩
    refine hK.out _ _ (by repeat (first | exact hHeld | exact Old.refl _ | assumption | refine Old.drew ?_ | refine Old.drewN ?_ _ | refine Old.alloc ?_ _)) (fun hHeld => ?_)
    clear hK K
    try simp only [Act.put, List.setIfInBounds_toArray, List.set_cons_zero, List.set_cons_succ]
    refine takeL (i := 11) (v := ?_) rfl (by kernel_rfl) (by kernel_rfl) (by kernel_rfl) (fun _ _ _ h => h) (Or.inl ⟨by rfl, ?_⟩) hHeld ?_
    rotate_left
    focus (intro wq hSw; clear hSw; go_simp; try with_reducible rfl)
    try simp only [Act.put, List.setIfInBounds_toArray, List.set_cons_zero, List.set_cons_succ]
    refine wpAnyH_ready (rs := [13]) (by kernel_rfl) (by simp) ?_
    refine consL rfl (fun K hK => ?_) AllReadyH.nil
    go_simp
    refine (turn_any _ 4 (by omega) _).mono ?_
    rintro e wx ⟨rfl, rfl⟩
    refine hK.out _ _ (by repeat (first | exact hHeld | exact Old.refl _ | assumption | refine Old.drew ?_ | refine Old.drewN ?_ _ | refine Old.alloc ?_ _)) (fun hHeld => ?_)
    clear hK K
    try simp only [Act.put, List.setIfInBounds_toArray, List.set_cons_zero, List.set_cons_succ]
    refine takeL (i := 14) (v := ?_) rfl (by kernel_rfl) (by kernel_rfl) (by kernel_rfl) (fun _ _ _ h => h) (Or.inl ⟨by rfl, ?_⟩) hHeld ?_
    rotate_left
    focus (intro wq hSw; clear hSw; go_simp; try with_reducible rfl)
    try simp only [Act.put, List.setIfInBounds_toArray, List.set_cons_zero, List.set_cons_succ]
    refine takeL (i := 15) (v := ?_) rfl (by kernel_rfl) (by kernel_rfl) (by kernel_rfl) (fun _ _ _ h => h) (Or.inl ⟨by rfl, ?_⟩) hHeld ?_
    rotate_left
    focus (intro wq hSw; clear hSw; go_simp; try with_reducible rfl)
    try simp only [Act.put, List.setIfInBounds_toArray, List.set_cons_zero, List.set_cons_succ]
    refine takeL (i := 18) (v := ?_) rfl (by kernel_rfl) (by kernel_rfl) (by kernel_rfl) (fun _ _ _ h => h) (Or.inl ⟨by rfl, ?_⟩) hHeld ?_
    rotate_left
    focus (intro wq hSw; clear hSw; go_simp; try with_reducible rfl)
    try simp only [Act.put, List.setIfInBounds_toArray, List.set_cons_zero, List.set_cons_succ]
    obtain ⟨y, hy⟩ : ∃ y, bx'[p'.toNat]? = some y := ⟨_, List.getElem?_eq_getElem (by rw [HC.out.1.1]; exact p'.toNat_lt)⟩
    have hcell := (HC.out.1.2.2.below HO.out)
    have hC' : CAt wd c kv bx' iv := ⟨HC.out.1.1, HC.out.1.2.1, hcell⟩
    have y0 := hC'.boxCell p'.toNat y hy
    have y1 := hcell.frozen (1 + p'.toNat)
    have HD := Lib.hid hC'
    clear hC' hcell hy
    refine wpAnyH_ready (rs := [19]) (by kernel_rfl) (by simp) ?_
    refine consL rfl (fun K hK => ?_) AllReadyH.nil
    go_simp
    refine hK.out _ _ (hHeld.setCell (.inl (by simp)) _) (fun hHeld => ?_)
    clear hK K
    try simp only [Act.put, List.setIfInBounds_toArray, List.set_cons_zero, List.set_cons_succ]
    refine wpAnyH_done (by kernel_rfl) ?_ _
    refine NoPanic.normal ?_
    have hst := steps_at (k + 1) (by omega) (by omega)
    have hNew := HD.out.box p'.toNat (q' ^^^ rot q' 1 ^^^ rot q' 2 ^^^ rot q' 3 ^^^ rot q' 4 ^^^ 99) p'.toNat_lt
    have ep : itP (k + 1) = p' := by rw [← hp', ← hp]; rfl
    have eq' : itQ (k + 1) = q' := by rw [← hq', ← hq]; rfl
    rw [ep, eq'] at hst
    have HN := Lib.hid (And.intro hNew (And.intro hHeld (And.intro hst (And.intro ep eq'))))
    clear hNew hst ep eq' y0 y1
    have HM := Lib.hid (And.intro (mz_at k hk) hp)
    by_cases hend : p' = 1
    · have h1 : isN p' 1 = true := by rw [hend]; rfl
      clear hp' hq' hp hq hlt
      have hk2 : k + 1 = 255 := by
        rcases Nat.lt_or_ge (k + 1) 255 with h | h
        · exact absurd hend (HN.out.2.2.1.2.1 h)
        · omega
      have hall : ∀ j, 1 ≤ j → j ≤ 255 → (bx'.set p'.toNat (q' ^^^ rot q' 1 ^^^ rot q' 2 ^^^ rot q' 3 ^^^ rot q' 4 ^^^ 99))[(itP j).toNat]? = some (sb (itP j)) := fun j a b => by
        rw [List.getElem?_set]
        by_cases e : p'.toNat = (itP j).toNat
        · rw [if_pos e, if_pos (by rw [HC.out.1.1]; exact p'.toNat_lt)]
          have e' : p' = itP j := UInt8.toNat_inj.1 e
          rw [← e', ← HN.out.2.2.1.1]
          rfl
        · rw [if_neg e]
          refine HC.out.2.2 j a ?_
          rcases Nat.lt_or_ge k j with h | h
          · obtain rfl : j = k + 1 := by omega
            exact absurd (by rw [HN.out.2.2.2.1]) e
          · exact h
      have hC2 := HN.out.1
      have hT2 := HC.out.2.1.trans HN.out.2.1 (fun x hx => .inl hx)
      clear HN HM HD HC hk2 HO HSz hHeld hend
      generalize hbx2 : bx'.set p'.toNat (q' ^^^ rot q' 1 ^^^ rot q' 2 ^^^ rot q' 3 ^^^ rot q' 4 ^^^ 99) = bx2 at *
      clear hbx2
      generalize wd.setCell _ _ = W2 at *
      obtain ⟨y, hy⟩ : ∃ y, bx2[0]? = some y := ⟨_, List.getElem?_eq_getElem (by rw [hC2.1]; omega)⟩
      have y0 := hC2.boxCell 0 y hy
      have y1 := hC2.2.2.frozen 1
      simp only [Nat.add_zero] at y0
      have hC3 := hC2.box 0 99 (by omega)
      have hT3 := hT2.setCell (p := ⟨c, 1 + 0, none⟩) (.inl (by simp)) (B 99)
      simp only [Nat.add_zero] at hC3 hT3
      rw [show B 99 = Value.int .u8 99 from rfl] at hC3 hT3
      have HC3 := Lib.hid hC3
      have HT3 := Lib.hid hT3
      have HALL := Lib.hid hall
      clear hC2 hT2 hall hC3 hT3 hy
      have hrng : (W2.setCell ⟨c, 1, none⟩ (.int .u8 99)).rangeAt c 1 ((bx2.set 0 99).map B) := fun j v hv => by
        rw [List.getElem?_map] at hv
        obtain ⟨x, hx, rfl⟩ := Option.map_eq_some_iff.1 hv
        exact HC3.out.boxCell j x hx
      have hlen : ((bx2.set 0 99).map B).length = 256 := by rw [List.length_map]; exact HC3.out.1
      have hAll2 : bx2.set 0 99 = boxL := by
        unfold boxL
        refine List.ext_getElem? fun i => ?_
        rcases Nat.lt_or_ge i 256 with hi | hi
        · rw [List.getElem?_map, List.getElem?_range hi, List.getElem?_set]
          by_cases e : 0 = i
          · subst e
            rw [if_pos rfl, if_pos (by have := HC3.out.1; simpa using Nat.lt_of_lt_of_eq (by omega) this.symm)]
            exact congrArg some sb_zero.symm
          · rw [if_neg e]
            obtain ⟨j, a, b, hj⟩ := all_met (UInt8.ofNat i) (fun e' => e (by have := congrArg UInt8.toNat e'; simp at this; omega))
            have := HALL.out j a b
            rw [hj] at this
            simpa [Nat.mod_eq_of_lt hi] using this
        · rw [List.getElem?_eq_none (by rw [HC3.out.1]; exact hi), List.getElem?_eq_none (by simpa using hi)]
      have hCf := HC3.out
      rw [hAll2] at hCf hrng hlen
      obtain ⟨Z, hZ⟩ : ∃ Z, Z = boxL := ⟨_, rfl⟩
      have hZk : ∀ k, k < 256 → Z[k]? = some (sb (UInt8.ofNat k)) := fun k h => by rw [hZ]; unfold boxL; rw [List.getElem?_map, List.getElem?_range h]; rfl
      rw [← hZ] at hCf hrng hlen
      obtain ⟨A, hA⟩ : ∃ A, A = Z.map B := ⟨_, rfl⟩
      have hAk : ∀ k, k < 256 → A.toArray[k]? = some (B (sb (UInt8.ofNat k))) := fun k h => by rw [hA, List.getElem?_toArray, List.getElem?_map, hZk k h]; rfl
      rw [← hA] at hrng hlen
      have HF := Lib.hid hCf
      have HZ := Lib.hid hZ
      have HAk := Lib.hid hAk
      have HL := Lib.hid (And.intro hrng hlen)
      clear hrng hlen hAll2 hCf hZ hZk hAk hA HC3 HALL
      go_wp2_with (refine wpList_load_mid rfl 40 (.tmp 54) rfl c 1 rfl A _ HL.out.1 Try.underlying40 rfl (by rw [HL.out.2]; rfl) ?_)
      clear y0 y1 h1
      go_loopw [56] (fun xv wr => ∃ (k : Nat) (iv' : List UInt8), k ≤ 256 ∧ xv = .int .i64 (k : Int) ∧ CAt wr c kv Z iv' ∧ Turn [c] w wr ∧ ∀ j, j < k → iv'[(sb (UInt8.ofNat j)).toNat]? = some (UInt8.ofNat j)) (fun xv _ => 256 - (intOf xv).toNat)
      case atStart => exact ⟨0, iv, by omega, rfl, HF.out, HT3.out, fun j hj => by omega⟩
      case round =>
        obtain ⟨k, iv', hk, rfl, hC, hT, hb⟩ := hrel
        clear HT3 HF hHeld HL
        by_cases hlt : k < 256
        · have hq : (k : Int) < 256 := by omega
          have hix := fun w => index_arr (t := 40) (q := .i64) Try.underlying40 Try.underlying5 (by kernel_rfl) hlt (HAk.out k hlt) w
          have hcv : (.int .u8 (k : Int) : Value) = B (UInt8.ofNat k) := by
            have : (UInt8.ofNat k).toNat = k := by simp; omega
            unfold B; rw [this]
          have HCV := Lib.hid hcv
          clear hcv
          generalize hs : sb (UInt8.ofNat k) = s at *
          have hsi : (s.toNat : Int) < 256 := by have := s.toNat_lt; omega
          obtain ⟨y, hy⟩ : ∃ y, iv'[s.toNat]? = some y := ⟨_, List.getElem?_eq_getElem (by rw [hC.2.1]; exact s.toNat_lt)⟩
          have y0 := hC.invCell s.toNat y hy
          have y1 := hC.2.2.frozen (257 + s.toNat)
          have hC3 := hC.inv s.toNat (UInt8.ofNat k)
          have hT3 := hT.setCell (p := ⟨c, 257 + s.toNat, none⟩) (.inl (by simp)) (B (UInt8.ofNat k))
          have HC3 := Lib.hid hC3
          have HT3 := Lib.hid hT3
          have HB := Lib.hid hb
          have HS := Lib.hid hs
          have HLen := Lib.hid hC.2.1
          clear hC hT hC3 hT3 hb hs hy
          go_wp2
          rw [HCV.out]
          refine ⟨⟨k + 1, _, by omega, by go_num, HC3.out, HT3.out, fun j hj => ?_⟩, by simp [intOf]; omega⟩
          rw [List.getElem?_set]
          by_cases e : s.toNat = (sb (UInt8.ofNat j)).toNat
          · rw [if_pos e, if_pos (by rw [HLen.out]; exact s.toNat_lt)]
            have e' : sb (UInt8.ofNat k) = sb (UInt8.ofNat j) := by rw [HS.out]; exact UInt8.toNat_inj.1 e
            rw [sb_inj _ _ e']
          · rw [if_neg e]
            rcases Nat.lt_or_ge j k with h | h
            · exact HB.out j h
            · obtain rfl : j = k := by omega
              exact absurd (by rw [HS.out]) e
        · obtain rfl : k = 256 := by omega
          have hq : ¬ ((256 : Int) < 256) := by omega
          have hi2 : iv' = invL := by
            unfold invL
            refine List.ext_getElem? fun i => ?_
            rcases Nat.lt_or_ge i 256 with hi | hi
            · rw [List.getElem?_map, List.getElem?_range hi]
              have h := hb (si (UInt8.ofNat i)).toNat (UInt8.toNat_lt _)
              rw [UInt8.ofNat_toNat, sb_si] at h
              have hn : (UInt8.ofNat i).toNat = i := by simp; omega
              rw [hn] at h
              exact h
            · rw [List.getElem?_eq_none (by rw [hC.2.1]; exact hi), List.getElem?_eq_none (by simpa using hi)]
          rw [hi2, HZ.out] at hC
          have HC3 := Lib.hid hC
          have HT3 := Lib.hid hT
          clear hC hT hb hi2 hlt hk
          go_wp2
          go_end0
          exact ⟨rfl, HC3.out, HT3.out⟩
    · have h1 : isN p' 1 = false := by
        unfold isN
        have : p'.toNat ≠ 1 := fun e => hend (by rw [← UInt8.toNat_inj]; exact e)
        simp; omega
      clear hp' hq' hp hq hlt
      have hk2 : k + 1 < 255 := by
        rcases Nat.lt_or_ge (k + 1) 255 with h | h
        · exact h
        · exact absurd (HN.out.2.2.1.2.2 (by omega)) hend
      have HK := Lib.hid hk2
      clear hk2
      go_wp2
      refine ⟨⟨k + 1, _, HK.out, by rw [HN.out.2.2.2.1], by rw [HN.out.2.2.2.2], HN.out.1, HC.out.2.1.trans HN.out.2.1 (fun x hx => .inl hx), fun j a b => ?_⟩, ?_⟩
      · rw [List.getElem?_set]
        by_cases e : p'.toNat = (itP j).toNat
        · rw [if_pos e, if_pos (by rw [HC.out.1.1]; exact p'.toNat_lt)]
          have e' : p' = itP j := UInt8.toNat_inj.1 e
          rw [← e', ← HN.out.2.2.1.1]
          rfl
        · rw [if_neg e]
          refine HC.out.2.2 j a ?_
          rcases Nat.lt_or_ge k j with h | h
          · obtain rfl : j = k + 1 := by omega
            exact absurd (by rw [HN.out.2.2.2.1]) e
          · exact h
      · simp only [byteOf_B]
        have m1 := mz_at (k + 1) HK.out
        rw [HN.out.2.2.2.1] at m1
        have m0 := HM.out.1
        rw [HM.out.2] at m0
        omega
end Go.Proofs.Ytgkkafkdgmdihaa
