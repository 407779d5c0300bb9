/-
  The tables of AES, in the memory of a cipher.
  The key schedule of AES, plainly.
  Rows of sixteen bytes: append of one.
-/
import Derived.Test.YtiocmebcbhbcmaaZzAesM
namespace Go.Proofs.Ytiocmebcbhbcmaa
set_option maxRecDepth 100000
open Go.RowKit

def cCells (kv : Value) (bx iv : List UInt8) : Array Value := (kv :: (bx.map B ++ iv.map B)).toArray
def CAt (W : World) (c : Nat) (kv : Value) (bx iv : List UInt8) : Prop := bx.length = 256 ∧ iv.length = 256 ∧ Blk W c 71 (cCells kv bx iv)
theorem cCells_box (kv : Value) (bx iv : List UInt8) (i : Nat) (x : UInt8) (h : i < bx.length) : (cCells kv bx iv).setIfInBounds (1 + i) (B x) = cCells kv (bx.set i x) iv := by
  unfold cCells
  rw [List.setIfInBounds_toArray, Nat.add_comm, List.set_cons_succ, List.set_append_left _ _ (by simpa using h), List.map_set]
theorem cCells_inv (kv : Value) (bx iv : List UInt8) (i : Nat) (x : UInt8) (hb : bx.length = 256) : (cCells kv bx iv).setIfInBounds (257 + i) (B x) = cCells kv bx (iv.set i x) := by
  unfold cCells
  rw [List.setIfInBounds_toArray, show 257 + i = (256 + i) + 1 by omega, List.set_cons_succ, List.set_append_right _ _ (by simp; omega), List.map_set]
  simp [hb]
theorem CAt.box {W : World} {c : Nat} {kv : Value} {bx iv : List UInt8} (h : CAt W c kv bx iv) (i : Nat) (x : UInt8) (hi : i < 256) : CAt (W.setCell ⟨c, 1 + i, none⟩ (B x)) c kv (bx.set i x) iv :=
  ⟨by simp [h.1], h.2.1, by rw [← cCells_box _ _ _ _ _ (by rw [h.1]; exact hi)]; exact h.2.2.set_ _ _⟩
theorem CAt.inv {W : World} {c : Nat} {kv : Value} {bx iv : List UInt8} (h : CAt W c kv bx iv) (i : Nat) (x : UInt8) : CAt (W.setCell ⟨c, 257 + i, none⟩ (B x)) c kv bx (iv.set i x) :=
  ⟨h.1, by simp [h.2.1], by rw [← cCells_inv _ _ _ _ _ h.1]; exact h.2.2.set_ _ _⟩
theorem CAt.boxCell {W : World} {c : Nat} {kv : Value} {bx iv : List UInt8} (h : CAt W c kv bx iv) (i : Nat) (x : UInt8) (hx : bx[i]? = some x) : W.cell? ⟨c, 1 + i, none⟩ = some (B x) := by
  have hi := (List.getElem?_eq_some_iff.1 hx).1
  rw [h.2.2.cell]
  unfold cCells
  rw [List.getElem?_toArray, Nat.add_comm, List.getElem?_cons_succ, List.getElem?_append_left (by simpa using hi), List.getElem?_map, hx]
  rfl
theorem CAt.invCell {W : World} {c : Nat} {kv : Value} {bx iv : List UInt8} (h : CAt W c kv bx iv) (i : Nat) (x : UInt8) (hx : iv[i]? = some x) : W.cell? ⟨c, 257 + i, none⟩ = some (B x) := by
  rw [h.2.2.cell]
  unfold cCells
  rw [List.getElem?_toArray, show 257 + i = (256 + i) + 1 by omega, List.getElem?_cons_succ, List.getElem?_append_right (by simp [h.1]), List.getElem?_map]
  simp [h.1, hx]
theorem region_turn {P : Program} {ops : Array Oper} {Q : Exit → Act → World → Prop} {id : Nat} {a : Act} {w : World} (S : List Nat) (hm : P.follows .mixedOrders = true)
    (h : ∀ wd, Old w wd → Turn S w wd → w.heap.size = wd.heap.size → wpAnyH P .any ops (NoPanic Q) (Turn S w) ops.size (Array.replicate ops.size false) a wd) : (Code.region id ops true).wp P Q a w :=
  wp_region_noPanic (wp_region_held_drew hm (Turn.of_below S (Old.drew (Old.refl w))) (fun hS => h _ (Old.drew (Old.refl w)) hS rfl))
def byteOf (v : Value) : UInt8 := UInt8.ofNat (intOf v).toNat
theorem byteOf_B (x : UInt8) : byteOf (B x) = x := by unfold byteOf B intOf; simp
/-- The table of bytes, and its inverse. -/
def boxL : List UInt8 := (List.range 256).map fun i => sb (UInt8.ofNat i)
def invL : List UInt8 := (List.range 256).map fun i => si (UInt8.ofNat i)
theorem tab_at (f : UInt8 → UInt8) (x : UInt8) : ((List.range 256).map fun i => f (UInt8.ofNat i))[x.toNat]? = some (f x) := by
  rw [List.getElem?_map, List.getElem?_range x.toNat_lt, Option.map_some, UInt8.ofNat_toNat]
theorem box_at (x : UInt8) : boxL[x.toNat]? = some (sb x) := tab_at sb x
theorem inv_at (x : UInt8) : invL[x.toNat]? = some (si x) := tab_at si x
set_option maxHeartbeats 1000000 in
/-- The first loop: what is met has its place in the table. -/
theorem tables_any (c : Nat) (kv : Value) (bx iv : List UInt8) (w : World) (h : CAt w c kv bx iv) :
    Calls Try.prog 63 #[.pointer (some ⟨c, 0, none⟩)] w fun e w' => e = .returned (.tuple #[]) ∧ CAt w' c kv boxL invL ∧ Turn [c] w w' := by
  go_enter Try.func63, Try.ntmps63
  go_wp2
  go_loopw [2, 3] (fun pv qv wr => ∃ (k : Nat) (bx : List UInt8), k < 255 ∧ pv = B (itP k) ∧ qv = B (itQ k) ∧ CAt wr c kv bx iv ∧ Turn [c] w wr ∧ ∀ j, 1 ≤ j → j ≤ k → bx[(itP j).toNat]? = some (sb (itP j))) (fun pv _ _ => 255 - mz (byteOf pv))
  case atStart => exact ⟨0, bx, by omega, rfl, rfl, h, Turn.refl _ _, fun j a b => by omega⟩
  case round =>
    obtain ⟨k, bx', hk, rfl, rfl, hC, hT, hb⟩ := hrel
    have HC := Lib.hid (And.intro hC (And.intro hT hb))
    clear hC hT hb
    have hlt := (itP (k+1)).toNat_lt
    generalize hp : itP k = p at *
    generalize hq : itQ k = q at *
    go_wp2_with (go_at_call 64; refine (twice_any _ _).mono ?_; rintro e wx ⟨rfl, rfl⟩)
    generalize hp' : p ^^^ tw p = p' at *
    generalize hq' : (q ^^^ q <<< 1 ^^^ (q ^^^ q <<< 1) <<< 2 ^^^ (q ^^^ q <<< 1 ^^^ (q ^^^ q <<< 1) <<< 2) <<< 4 ^^^ (q ^^^ q <<< 1 ^^^ (q ^^^ q <<< 1) <<< 2 ^^^ (q ^^^ q <<< 1 ^^^ (q ^^^ q <<< 1) <<< 2) <<< 4) >>> 7 * 9) = q' at *
    have hi : (p'.toNat : Int) < 256 := by have := p'.toNat_lt; omega
    refine region_turn [c] (by kernel_rfl) (fun wd hOld hHeld hSz => ?_)
    have HO := Lib.hid hOld
    clear hOld
    have HSz := Lib.hid hSz
    clear hSz
    refine takeL (i := 0) (v := ?_) rfl (by kernel_rfl) (by kernel_rfl) (by kernel_rfl) (fun _ _ _ h => h) (Or.inl ⟨by rfl, ?_⟩) hHeld ?_
    rotate_left
    focus (intro wq hSw; clear hSw; go_simp; try with_reducible rfl)
    try simp only [Act.put, List.setIfInBounds_toArray, List.set_cons_zero, List.set_cons_succ]
    refine takeL (i := 1) (v := ?_) rfl (by kernel_rfl) (by kernel_rfl) (by kernel_rfl) (fun _ _ _ h => h) (Or.inl ⟨by rfl, ?_⟩) hHeld ?_
    rotate_left
    focus (intro wq hSw; clear hSw; go_simp; try with_reducible rfl)
    try simp only [Act.put, List.setIfInBounds_toArray, List.set_cons_zero, List.set_cons_succ]
    refine takeL (i := 2) (v := ?_) rfl (by kernel_rfl) (by kernel_rfl) (by kernel_rfl) (fun _ _ _ h => h) (Or.inl ⟨by rfl, ?_⟩) hHeld ?_
    rotate_left
    focus (intro wq hSw; clear hSw; go_simp; try with_reducible rfl)
    try simp only [Act.put, List.setIfInBounds_toArray, List.set_cons_zero, List.set_cons_succ]
    refine takeL (i := 3) (v := ?_) rfl (by kernel_rfl) (by kernel_rfl) (by kernel_rfl) (fun _ _ _ h => h) (Or.inl ⟨by rfl, ?_⟩) hHeld ?_
    rotate_left
    focus (intro wq hSw; clear hSw; go_simp; try with_reducible rfl)
    try simp only [Act.put, List.setIfInBounds_toArray, List.set_cons_zero, List.set_cons_succ]
    refine takeL (i := 6) (v := ?_) rfl (by kernel_rfl) (by kernel_rfl) (by kernel_rfl) (fun _ _ _ h => h) (Or.inl ⟨by rfl, ?_⟩) hHeld ?_
    rotate_left
    focus (intro wq hSw; clear hSw; go_simp; try with_reducible rfl)
    try simp only [Act.put, List.setIfInBounds_toArray, List.set_cons_zero, List.set_cons_succ]
    refine takeL (i := 9) (v := ?_) rfl (by kernel_rfl) (by kernel_rfl) (by kernel_rfl) (fun _ _ _ h => h) (Or.inl ⟨by rfl, ?_⟩) hHeld ?_
    rotate_left
    focus (intro wq hSw; clear hSw; go_simp; try with_reducible rfl)
    try simp only [Act.put, List.setIfInBounds_toArray, List.set_cons_zero, List.set_cons_succ]
    refine takeL (i := 12) (v := ?_) rfl (by kernel_rfl) (by kernel_rfl) (by kernel_rfl) (fun _ _ _ h => h) (Or.inl ⟨by rfl, ?_⟩) hHeld ?_
    rotate_left
    focus (intro wq hSw; clear hSw; go_simp; try with_reducible rfl)
    try simp only [Act.put, List.setIfInBounds_toArray, List.set_cons_zero, List.set_cons_succ]
    refine takeL (i := 16) (v := ?_) rfl (by kernel_rfl) (by kernel_rfl) (by kernel_rfl) (fun _ _ _ h => h) (Or.inl ⟨by rfl, ?_⟩) hHeld ?_
    rotate_left
    focus (intro wq hSw; clear hSw; go_simp; try with_reducible rfl)
    try simp only [Act.put, List.setIfInBounds_toArray, List.set_cons_zero, List.set_cons_succ]
    refine takeL (i := 17) (v := ?_) rfl (by kernel_rfl) (by kernel_rfl) (by kernel_rfl) (fun _ _ _ h => h) (Or.inl ⟨by rfl, ?_⟩) hHeld ?_
    rotate_left
    focus (intro wq hSw; clear hSw; go_simp; try with_reducible rfl)
    try simp only [Act.put, List.setIfInBounds_toArray, List.set_cons_zero, List.set_cons_succ]
    refine wpAnyH_ready (rs := [4]) (by kernel_rfl) (by simp) ?_
    refine consL rfl (fun K hK => ?_) AllReadyH.nil
    go_simp
    refine (turn_any _ 1 (by omega) _).mono ?_
    rintro e wx ⟨rfl, rfl⟩
    refine hK.out _ _ (by repeat (first | exact hHeld | exact Old.refl _ | assumption | refine Old.drew ?_ | refine Old.drewN ?_ _ | refine Old.alloc ?_ _)) (fun hHeld => ?_)
    clear hK K
    try simp only [Act.put, List.setIfInBounds_toArray, List.set_cons_zero, List.set_cons_succ]
    refine takeL (i := 5) (v := ?_) rfl (by kernel_rfl) (by kernel_rfl) (by kernel_rfl) (fun _ _ _ h => h) (Or.inl ⟨by rfl, ?_⟩) hHeld ?_
    rotate_left
    focus (intro wq hSw; clear hSw; go_simp; try with_reducible rfl)
    try simp only [Act.put, List.setIfInBounds_toArray, List.set_cons_zero, List.set_cons_succ]
    refine wpAnyH_ready (rs := [7]) (by kernel_rfl) (by simp) ?_
    refine consL rfl (fun K hK => ?_) AllReadyH.nil
    go_simp
    refine (turn_any _ 2 (by omega) _).mono ?_
    rintro e wx ⟨rfl, rfl⟩
    refine hK.out _ _ (by repeat (first | exact hHeld | exact Old.refl _ | assumption | refine Old.drew ?_ | refine Old.drewN ?_ _ | refine Old.alloc ?_ _)) (fun hHeld => ?_)
    clear hK K
    try simp only [Act.put, List.setIfInBounds_toArray, List.set_cons_zero, List.set_cons_succ]
    refine takeL (i := 8) (v := ?_) rfl (by kernel_rfl) (by kernel_rfl) (by kernel_rfl) (fun _ _ _ h => h) (Or.inl ⟨by rfl, ?_⟩) hHeld ?_
    rotate_left
    focus (intro wq hSw; clear hSw; go_simp; try with_reducible rfl)
    try simp only [Act.put, List.setIfInBounds_toArray, List.set_cons_zero, List.set_cons_succ]
    refine wpAnyH_ready (rs := [10]) (by kernel_rfl) (by simp) ?_
    refine consL rfl (fun K hK => ?_) AllReadyH.nil
    go_simp
    refine (turn_any _ 3 (by omega) _).mono ?_
    rintro e wx ⟨rfl, rfl⟩
    refine hK.out _ _ (by repeat (first | exact hHeld | exact Old.refl _ | assumption | refine Old.drew ?_ | refine Old.drewN ?_ _ | refine Old.alloc ?_ _)) (fun hHeld => ?_)
    clear hK K
    try simp only [Act.put, List.setIfInBounds_toArray, List.set_cons_zero, List.set_cons_succ]
    refine takeL (i := 11) (v := ?_) rfl (by kernel_rfl) (by kernel_rfl) (by kernel_rfl) (fun _ _ _ h => h) (Or.inl ⟨by rfl, ?_⟩) hHeld ?_
    rotate_left
    focus (intro wq hSw; clear hSw; go_simp; try with_reducible rfl)
    try simp only [Act.put, List.setIfInBounds_toArray, List.set_cons_zero, List.set_cons_succ]
    refine wpAnyH_ready (rs := [13]) (by kernel_rfl) (by simp) ?_
    refine consL rfl (fun K hK => ?_) AllReadyH.nil
    go_simp
    refine (turn_any _ 4 (by omega) _).mono ?_
    rintro e wx ⟨rfl, rfl⟩
    refine hK.out _ _ (by repeat (first | exact hHeld | exact Old.refl _ | assumption | refine Old.drew ?_ | refine Old.drewN ?_ _ | refine Old.alloc ?_ _)) (fun hHeld => ?_)
    clear hK K
    try simp only [Act.put, List.setIfInBounds_toArray, List.set_cons_zero, List.set_cons_succ]
    refine takeL (i := 14) (v := ?_) rfl (by kernel_rfl) (by kernel_rfl) (by kernel_rfl) (fun _ _ _ h => h) (Or.inl ⟨by rfl, ?_⟩) hHeld ?_
    rotate_left
    focus (intro wq hSw; clear hSw; go_simp; try with_reducible rfl)
    try simp only [Act.put, List.setIfInBounds_toArray, List.set_cons_zero, List.set_cons_succ]
    refine takeL (i := 15) (v := ?_) rfl (by kernel_rfl) (by kernel_rfl) (by kernel_rfl) (fun _ _ _ h => h) (Or.inl ⟨by rfl, ?_⟩) hHeld ?_
    rotate_left
    focus (intro wq hSw; clear hSw; go_simp; try with_reducible rfl)
    try simp only [Act.put, List.setIfInBounds_toArray, List.set_cons_zero, List.set_cons_succ]
    refine takeL (i := 18) (v := ?_) rfl (by kernel_rfl) (by kernel_rfl) (by kernel_rfl) (fun _ _ _ h => h) (Or.inl ⟨by rfl, ?_⟩) hHeld ?_
    rotate_left
    focus (intro wq hSw; clear hSw; go_simp; try with_reducible rfl)
    try simp only [Act.put, List.setIfInBounds_toArray, List.set_cons_zero, List.set_cons_succ]
    obtain ⟨y, hy⟩ : ∃ y, bx'[p'.toNat]? = some y := ⟨_, List.getElem?_eq_getElem (by rw [HC.out.1.1]; exact p'.toNat_lt)⟩
    have hcell := (HC.out.1.2.2.below HO.out)
    have hC' : CAt wd c kv bx' iv := ⟨HC.out.1.1, HC.out.1.2.1, hcell⟩
    have y0 := hC'.boxCell p'.toNat y hy
    have y1 := hcell.frozen (1 + p'.toNat)
    have HD := Lib.hid hC'
    clear hC' hcell hy
    refine wpAnyH_ready (rs := [19]) (by kernel_rfl) (by simp) ?_
    refine consL rfl (fun K hK => ?_) AllReadyH.nil
    go_simp
    refine hK.out _ _ (hHeld.setCell (.inl (by simp)) _) (fun hHeld => ?_)
    clear hK K
    try simp only [Act.put, List.setIfInBounds_toArray, List.set_cons_zero, List.set_cons_succ]
    refine wpAnyH_done (by kernel_rfl) ?_ _
    refine NoPanic.normal ?_
    have hst := steps_at (k + 1) (by omega) (by omega)
    have hNew := HD.out.box p'.toNat (q' ^^^ rot q' 1 ^^^ rot q' 2 ^^^ rot q' 3 ^^^ rot q' 4 ^^^ 99) p'.toNat_lt
    have ep : itP (k + 1) = p' := by rw [← hp', ← hp]; rfl
    have eq' : itQ (k + 1) = q' := by rw [← hq', ← hq]; rfl
    rw [ep, eq'] at hst
    have HN := Lib.hid (And.intro hNew (And.intro hHeld (And.intro hst (And.intro ep eq'))))
    clear hNew hst ep eq' y0 y1
    have HM := Lib.hid (And.intro (mz_at k hk) hp)
    by_cases hend : p' = 1
    · have h1 : isN p' 1 = true := by rw [hend]; rfl
      clear hp' hq' hp hq hlt
      have hk2 : k + 1 = 255 := by
        rcases Nat.lt_or_ge (k + 1) 255 with h | h
        · exact absurd hend (HN.out.2.2.1.2.1 h)
        · omega
      have hall : ∀ j, 1 ≤ j → j ≤ 255 → (bx'.set p'.toNat (q' ^^^ rot q' 1 ^^^ rot q' 2 ^^^ rot q' 3 ^^^ rot q' 4 ^^^ 99))[(itP j).toNat]? = some (sb (itP j)) := fun j a b => by
        rw [List.getElem?_set]
        by_cases e : p'.toNat = (itP j).toNat
        · rw [if_pos e, if_pos (by rw [HC.out.1.1]; exact p'.toNat_lt)]
          have e' : p' = itP j := UInt8.toNat_inj.1 e
          rw [← e', ← HN.out.2.2.1.1]
          rfl
        · rw [if_neg e]
          refine HC.out.2.2 j a ?_
          rcases Nat.lt_or_ge k j with h | h
          · obtain rfl : j = k + 1 := by omega
            exact absurd (by rw [HN.out.2.2.2.1]) e
          · exact h
      have hC2 := HN.out.1
      have hT2 := HC.out.2.1.trans HN.out.2.1 (fun x hx => .inl hx)
      clear HN HM HD HC hk2 HO HSz hHeld hend
      generalize hbx2 : bx'.set p'.toNat (q' ^^^ rot q' 1 ^^^ rot q' 2 ^^^ rot q' 3 ^^^ rot q' 4 ^^^ 99) = bx2 at *
      clear hbx2
      generalize wd.setCell _ _ = W2 at *
      obtain ⟨y, hy⟩ : ∃ y, bx2[0]? = some y := ⟨_, List.getElem?_eq_getElem (by rw [hC2.1]; omega)⟩
      have y0 := hC2.boxCell 0 y hy
      have y1 := hC2.2.2.frozen 1
      simp only [Nat.add_zero] at y0
      have hC3 := hC2.box 0 99 (by omega)
      have hT3 := hT2.setCell (p := ⟨c, 1 + 0, none⟩) (.inl (by simp)) (B 99)
      simp only [Nat.add_zero] at hC3 hT3
      rw [show B 99 = Value.int .u8 99 from rfl] at hC3 hT3
      have HC3 := Lib.hid hC3
      have HT3 := Lib.hid hT3
      have HALL := Lib.hid hall
      clear hC2 hT2 hall hC3 hT3 hy
      have hrng : (W2.setCell ⟨c, 1, none⟩ (.int .u8 99)).rangeAt c 1 ((bx2.set 0 99).map B) := fun j v hv => by
        rw [List.getElem?_map] at hv
        obtain ⟨x, hx, rfl⟩ := Option.map_eq_some_iff.1 hv
        exact HC3.out.boxCell j x hx
      have hlen : ((bx2.set 0 99).map B).length = 256 := by rw [List.length_map]; exact HC3.out.1
      have hAll2 : bx2.set 0 99 = boxL := by
        unfold boxL
        refine List.ext_getElem? fun i => ?_
        rcases Nat.lt_or_ge i 256 with hi | hi
        · rw [List.getElem?_map, List.getElem?_range hi, List.getElem?_set]
          by_cases e : 0 = i
          · subst e
            rw [if_pos rfl, if_pos (by have := HC3.out.1; simpa using Nat.lt_of_lt_of_eq (by omega) this.symm)]
            exact congrArg some sb_zero.symm
          · rw [if_neg e]
            obtain ⟨j, a, b, hj⟩ := all_met (UInt8.ofNat i) (fun e' => e (by have := congrArg UInt8.toNat e'; simp at this; omega))
            have := HALL.out j a b
            rw [hj] at this
            simpa [Nat.mod_eq_of_lt hi] using this
        · rw [List.getElem?_eq_none (by rw [HC3.out.1]; exact hi), List.getElem?_eq_none (by simpa using hi)]
      have hCf := HC3.out
      rw [hAll2] at hCf hrng hlen
      obtain ⟨Z, hZ⟩ : ∃ Z, Z = boxL := ⟨_, rfl⟩
      have hZk : ∀ k, k < 256 → Z[k]? = some (sb (UInt8.ofNat k)) := fun k h => by rw [hZ]; unfold boxL; rw [List.getElem?_map, List.getElem?_range h]; rfl
      rw [← hZ] at hCf hrng hlen
      obtain ⟨A, hA⟩ : ∃ A, A = Z.map B := ⟨_, rfl⟩
      have hAk : ∀ k, k < 256 → A.toArray[k]? = some (B (sb (UInt8.ofNat k))) := fun k h => by rw [hA, List.getElem?_toArray, List.getElem?_map, hZk k h]; rfl
      rw [← hA] at hrng hlen
      have HF := Lib.hid hCf
      have HZ := Lib.hid hZ
      have HAk := Lib.hid hAk
      have HL := Lib.hid (And.intro hrng hlen)
      clear hrng hlen hAll2 hCf hZ hZk hAk hA HC3 HALL
      go_wp2_with (refine wpList_load_mid rfl 69 (.tmp 54) rfl c 1 rfl A _ HL.out.1 Try.underlying69 rfl (by rw [HL.out.2]; rfl) ?_)
      clear y0 y1 h1
      go_loopw [56] (fun xv wr => ∃ (k : Nat) (iv' : List UInt8), k ≤ 256 ∧ xv = .int .i64 (k : Int) ∧ CAt wr c kv Z iv' ∧ Turn [c] w wr ∧ ∀ j, j < k → iv'[(sb (UInt8.ofNat j)).toNat]? = some (UInt8.ofNat j)) (fun xv _ => 256 - (intOf xv).toNat)
      case atStart => exact ⟨0, iv, by omega, rfl, HF.out, HT3.out, fun j hj => by omega⟩
      case round =>
        obtain ⟨k, iv', hk, rfl, hC, hT, hb⟩ := hrel
        clear HT3 HF hHeld HL
        by_cases hlt : k < 256
        · have hq : (k : Int) < 256 := by omega
          have hix := fun w => index_arr (t := 69) (q := .i64) Try.underlying69 Try.underlying5 (by kernel_rfl) hlt (HAk.out k hlt) w
          have hcv : (.int .u8 (k : Int) : Value) = B (UInt8.ofNat k) := by
            have : (UInt8.ofNat k).toNat = k := by simp; omega
            unfold B; rw [this]
          have HCV := Lib.hid hcv
          clear hcv
          generalize hs : sb (UInt8.ofNat k) = s at *
          have hsi : (s.toNat : Int) < 256 := by have := s.toNat_lt; omega
          obtain ⟨y, hy⟩ : ∃ y, iv'[s.toNat]? = some y := ⟨_, List.getElem?_eq_getElem (by rw [hC.2.1]; exact s.toNat_lt)⟩
          have y0 := hC.invCell s.toNat y hy
          have y1 := hC.2.2.frozen (257 + s.toNat)
          have hC3 := hC.inv s.toNat (UInt8.ofNat k)
          have hT3 := hT.setCell (p := ⟨c, 257 + s.toNat, none⟩) (.inl (by simp)) (B (UInt8.ofNat k))
          have HC3 := Lib.hid hC3
          have HT3 := Lib.hid hT3
          have HB := Lib.hid hb
          have HS := Lib.hid hs
          have HLen := Lib.hid hC.2.1
          clear hC hT hC3 hT3 hb hs hy
          go_wp2
          rw [HCV.out]
          refine ⟨⟨k + 1, _, by omega, by go_num, HC3.out, HT3.out, fun j hj => ?_⟩, by simp [intOf]; omega⟩
          rw [List.getElem?_set]
          by_cases e : s.toNat = (sb (UInt8.ofNat j)).toNat
          · rw [if_pos e, if_pos (by rw [HLen.out]; exact s.toNat_lt)]
            have e' : sb (UInt8.ofNat k) = sb (UInt8.ofNat j) := by rw [HS.out]; exact UInt8.toNat_inj.1 e
            rw [sb_inj _ _ e']
          · rw [if_neg e]
            rcases Nat.lt_or_ge j k with h | h
            · exact HB.out j h
            · obtain rfl : j = k := by omega
              exact absurd (by rw [HS.out]) e
        · obtain rfl : k = 256 := by omega
          have hq : ¬ ((256 : Int) < 256) := by omega
          have hi2 : iv' = invL := by
            unfold invL
            refine List.ext_getElem? fun i => ?_
            rcases Nat.lt_or_ge i 256 with hi | hi
            · rw [List.getElem?_map, List.getElem?_range hi]
              have h := hb (si (UInt8.ofNat i)).toNat (UInt8.toNat_lt _)
              rw [UInt8.ofNat_toNat, sb_si] at h
              have hn : (UInt8.ofNat i).toNat = i := by simp; omega
              rw [hn] at h
              exact h
            · rw [List.getElem?_eq_none (by rw [hC.2.1]; exact hi), List.getElem?_eq_none (by simpa using hi)]
          rw [hi2, HZ.out] at hC
          have HC3 := Lib.hid hC
          have HT3 := Lib.hid hT
          clear hC hT hb hi2 hlt hk
          go_wp2
          go_end0
          exact ⟨rfl, HC3.out, HT3.out⟩
    · have h1 : isN p' 1 = false := by
        unfold isN
        have : p'.toNat ≠ 1 := fun e => hend (by rw [← UInt8.toNat_inj]; exact e)
        simp; omega
      clear hp' hq' hp hq hlt
      have hk2 : k + 1 < 255 := by
        rcases Nat.lt_or_ge (k + 1) 255 with h | h
        · exact h
        · exact absurd (HN.out.2.2.1.2.2 (by omega)) hend
      have HK := Lib.hid hk2
      clear hk2
      go_wp2
      refine ⟨⟨k + 1, _, HK.out, by rw [HN.out.2.2.2.1], by rw [HN.out.2.2.2.2], HN.out.1, HC.out.2.1.trans HN.out.2.1 (fun x hx => .inl hx), fun j a b => ?_⟩, ?_⟩
      · rw [List.getElem?_set]
        by_cases e : p'.toNat = (itP j).toNat
        · rw [if_pos e, if_pos (by rw [HC.out.1.1]; exact p'.toNat_lt)]
          have e' : p' = itP j := UInt8.toNat_inj.1 e
          rw [← e', ← HN.out.2.2.1.1]
          rfl
        · rw [if_neg e]
          refine HC.out.2.2 j a ?_
          rcases Nat.lt_or_ge k j with h | h
          · obtain rfl : j = k + 1 := by omega
            exact absurd (by rw [HN.out.2.2.2.1]) e
          · exact h
      · simp only [byteOf_B]
        have m1 := mz_at (k + 1) HK.out
        rw [HN.out.2.2.2.1] at m1
        have m0 := HM.out.1
        rw [HM.out.2] at m0
        omega
end Go.Proofs.Ytiocmebcbhbcmaa
namespace Go.Proofs.Ytiocmebcbhbcmaa
set_option maxRecDepth 100000
open Go.RowKit

def kT (n i : Nat) (rc t0 t1 t2 t3 : UInt8) : List UInt8 :=
  if i % n = 0 then [sb t1 ^^^ rc, sb t2, sb t3, sb t0] else if n > 6 ∧ i % n = 4 then [sb t0, sb t1, sb t2, sb t3] else [t0, t1, t2, t3]
theorem kT_len (n i : Nat) (rc t0 t1 t2 t3 : UInt8) : (kT n i rc t0 t1 t2 t3).length = 4 := by
  unfold kT; split
  · rfl
  · split <;> rfl
/-- The bytes that one step adds to w: i words stand. -/
def kAdd (n i : Nat) (rc : UInt8) (w : List UInt8) : List UInt8 :=
  List.zipWith (· ^^^ ·) ((w.drop (4 * (i - n))).take 4) (kT n i rc (w.getD (4 * i - 4) 0) (w.getD (4 * i - 3) 0) (w.getD (4 * i - 2) 0) (w.getD (4 * i - 1) 0))
def kRc (n i : Nat) (rc : UInt8) : UInt8 := if i % n = 0 then tw rc else rc
/-- The schedule behind m steps: the words, the round's constant. -/
def kW (n : Nat) (l : List UInt8) : Nat → List UInt8 × UInt8
  | 0 => (l, 1)
  | m + 1 => ((kW n l m).1 ++ kAdd n (n + m) (kW n l m).2 (kW n l m).1, kRc n (n + m) (kW n l m).2)
theorem kAdd_len (n i : Nat) (rc : UInt8) (w : List UInt8) (h : 4 * (i - n) + 4 ≤ w.length) : (kAdd n i rc w).length = 4 := by
  unfold kAdd
  rw [List.length_zipWith, List.length_take, List.length_drop, kT_len]; omega
theorem kW_len (n : Nat) (l : List UInt8) (hn : 0 < n) (hl : l.length = 4 * n) (m : Nat) : (kW n l m).1.length = 4 * (n + m) := by
  induction m with
  | zero => exact hl
  | succ m ih =>
    show ((kW n l m).1 ++ kAdd n (n + m) (kW n l m).2 (kW n l m).1).length = _
    rw [List.length_append, ih, kAdd_len _ _ _ _ (by rw [ih]; omega)]; omega
/-- The round keys of a key. -/
def rks (l : List UInt8) : List UInt8 := (kW (l.length / 4) l (3 * (l.length / 4) + 28)).1
theorem rks_len (l : List UInt8) (h : l.length = 16 ∨ l.length = 24 ∨ l.length = 32) : (rks l).length = 16 * (l.length / 4 + 7) := by
  unfold rks
  rw [kW_len _ _ (by omega) (by omega)]; omega
end Go.Proofs.Ytiocmebcbhbcmaa
namespace Go.Proofs.Ytiocmebcbhbcmaa
set_option maxRecDepth 100000
open Go.RowKit

def OwnK (W : World) (base : Nat) (v : Value) (R : Nat) (ks : List UInt8) : Prop := W.ownsRow base 74 16 v R (ks.map B)
theorem Try.infoK : (Try.prog.info? 74).map (fun i => (i.zero, i.size, i.bytes)) = some (some (.agg #[.int .u8 0, .int .u8 0, .int .u8 0, .int .u8 0, .int .u8 0, .int .u8 0, .int .u8 0, .int .u8 0, .int .u8 0, .int .u8 0, .int .u8 0, .int .u8 0, .int .u8 0, .int .u8 0, .int .u8 0, .int .u8 0]), 16, 16) := by kernel_rfl
theorem OwnK.nil (w : World) (base : Nat) : OwnK w base (.slice none 0 0) 0 [] := World.ownsRow_nil _ _ _ _
theorem OwnK.keep {w w' : World} {base R : Nat} {v : Value} {l : List UInt8} (h : OwnK w base v R l) (hk : ∀ g, v.ownBlock = some g → w'.heap[g]? = w.heap[g]?) : OwnK w' base v R l := by
  obtain ⟨h1, h2⟩ := h
  refine ⟨h1, ?_⟩
  rcases h2 with h2 | ⟨g, cap, cur, rfl, hg, hh, r⟩
  · exact .inl h2
  · exact .inr ⟨g, cap, cur, rfl, hg, (hk g rfl).trans hh, r⟩
theorem OwnK.lt {w : World} {base R : Nat} {v : Value} {l : List UInt8} (h : OwnK w base v R l) {g : Nat} (hg : v.ownBlock = some g) : base ≤ g ∧ g < w.heap.size := World.ownsRow.lt h g hg
theorem OwnK.turn {w w' : World} {S : List Nat} {base R : Nat} {v : Value} {l : List UInt8} (h : OwnK w base v R l) (ht : Turn S w w') (hn : ∀ g, v.ownBlock = some g → g ∉ S) : OwnK w' base v R l :=
  h.keep fun g hg => ht.block g (h.lt hg).2 (hn g hg)
theorem OwnK.alloc_ {w : World} {base R : Nat} {v : Value} {l : List UInt8} (h : OwnK w base v R l) (o : Obj) : OwnK (w.alloc o) base v R l :=
  h.keep fun g hg => ((Below.refl w.heap.size w).alloc (Nat.le_refl _) o).block g (h.lt hg).2
theorem OwnK.len {w : World} {base R : Nat} {v : Value} {l : List UInt8} (h : OwnK w base v R l) : l.length = R * 16 := by
  have := h.1; rwa [List.length_map] at this
theorem OwnK.form {w : World} {base R : Nat} {v : Value} {l : List UInt8} (h : OwnK w base v R l) (hR : 0 < R) :
    ∃ g c, v = .slice (some ⟨g, 0, none⟩) R c ∧ base ≤ g ∧ g < w.heap.size ∧ R ≤ c ∧ c ≤ maxLen ∧ ∀ j x, l[j]? = some x → w.cell? ⟨g, j, none⟩ = some (B x) := by
  have h' := h
  obtain ⟨h1, h2⟩ := h
  rcases h2 with ⟨rfl, h0⟩ | ⟨g, cap, cur, rfl, hg, hh, hnc, hm, hcs, htk⟩
  · omega
  · refine ⟨g, cap, rfl, hg, (h'.lt (g := g) rfl).2, hnc, hm, fun j x hx => ?_⟩
    have := World.ownsRow.cells h' (g := g) rfl j (B x) (by rw [List.getElem?_map, hx]; rfl)
    rwa [show (⟨g, 0, none⟩ : Addr).add j = ⟨g, j, none⟩ by rw [Addr.add_mid, Nat.zero_add]] at this
theorem op_appK {o : Oper} {a : Act} {w : World} {K : Act → World → Prop} {Q : Exit → Act → World → Prop} (s x : Operand)
    (ho : o.op = .call { callee := .builtin .append, args := #[s, x], argTypes := #[68, 68] })
    (base R : Nat) (v : Value) (ks : List UInt8) (hs : a.eval s = v) (hown : OwnK w base v R ks) (b : Nat) (l2 : List UInt8) (hx : a.eval x = .slice (some ⟨b, 0, none⟩) 1 1) (hl : l2.length = 16)
    (hc : ∀ j u, (l2.map B)[j]? = some u → w.cell? ⟨b, j, none⟩ = some u) (hR : R ≤ 1000) (hbase : base ≤ w.heap.size)
    (h : ∀ v' w', OwnK w' base v' (R + 1) (ks ++ l2) → w.grownBy w' v.ownBlock → (v'.ownBlock = v.ownBlock ∨ v'.ownBlock = some w.heap.size) → K (a.put o.dst v') w') :
    Oper.wp Try.prog o a w K Q := by
  obtain ⟨i0, hi, hz0, hz1, hz2⟩ := info_parts Try.infoK
  obtain ⟨v', w', hr, ho', hg, hn, hb⟩ := run_append_own_at (P := Try.prog) w base 68 o.type 74 i0 _ 16 16 Try.underlying68 hi hz0 hz1 hz2 rfl (by decide) v R (ks.map B) hown ⟨b, 0, none⟩ 1 1 (l2.map B) (by simp [hl])
      (fun j u hu => by rw [show (⟨b, 0, none⟩ : Addr).add j = ⟨b, j, none⟩ by rw [Addr.add_mid, Nat.zero_add]]; exact hc j u hu) (fun u hu => by obtain ⟨x, _, rfl⟩ := List.mem_map.1 hu; rfl) (by unfold maxLen; omega) (by omega) hbase
  unfold Oper.wp
  simp only [execOp, ho, resolve, invoke, builtin, Sem.run_bind, Sem.run_pure, Result.andThen_ok, List.map_toArray, List.map_cons, List.map_nil, hs, hx, hr]
  refine h v' w' ?_ hg hb
  unfold OwnK
  rw [List.map_append]
  exact ho'
theorem step_appK {ops : Array Oper} {o : Oper} {a : Act} {w : World} {K : Act → World → Prop} {Q : Exit → Act → World → Prop} {E : Prop} (hgd : o.guard = none) (s x : Operand)
    (ho : o.op = .call { callee := .builtin .append, args := #[s, x], argTypes := #[68, 68] })
    (base R : Nat) (v : Value) (ks : List UInt8) (hs : a.eval s = v) (hown : OwnK w base v R ks) (b : Nat) (l2 : List UInt8) (hx : a.eval x = .slice (some ⟨b, 0, none⟩) 1 1) (hl : l2.length = 16)
    (hc : ∀ j u, (l2.map B)[j]? = some u → w.cell? ⟨b, j, none⟩ = some u) (hR : R ≤ 1000) (hbase : base ≤ w.heap.size)
    (h : ∀ v' w', OwnK w' base v' (R + 1) (ks ++ l2) → w.grownBy w' v.ownBlock → (v'.ownBlock = v.ownBlock ∨ v'.ownBlock = some w.heap.size) → K (a.put o.dst v') w') :
    if Region.wanted o (yielded ops a.tmps) = true then Oper.wp Try.prog o a w K Q else E := by
  rw [if_pos (by simp [Region.wanted, hgd])]
  exact op_appK s x ho base R v ks hs hown b l2 hx hl hc hR hbase h
/-- The cells of a block that was made just now. -/
theorem cells_new (w : World) (l2 : List UInt8) (t : TypeId) : ∀ j u, (l2.map B)[j]? = some u → (w.alloc (.cells (l2.map B).toArray t)).cell? ⟨w.heap.size, j, none⟩ = some u := fun j u hu => by
  have hb : Blk (w.alloc (.cells (l2.map B).toArray t)) w.heap.size t (l2.map B).toArray := Blk.new _ _ _
  rw [hb.cell, List.getElem?_toArray]; exact hu
theorem CAt.keys {W : World} {c : Nat} {kv : Value} {bx iv : List UInt8} (h : CAt W c kv bx iv) (v : Value) : CAt (W.setCell ⟨c, 0, none⟩ v) c v bx iv :=
  ⟨h.1, h.2.1, h.2.2.set_ 0 v⟩
/-- A key's cipher in memory: c its place; the round keys in block K, R of them. -/
def Cip (W : World) (b0 c : Nat) (ks : List UInt8) (K R cp : Nat) : Prop :=
  CAt W c (.slice (some ⟨K, 0, none⟩) R cp) boxL invL ∧ b0 ≤ c ∧ b0 ≤ K ∧ K < W.heap.size ∧ c ≠ K ∧ ks.length = 16 * R ∧ 11 ≤ R ∧ R ≤ 15 ∧ R ≤ cp ∧ cp ≤ maxLen ∧ ∀ j x, ks[j]? = some x → W.cell? ⟨K, j, none⟩ = some (B x)
end Go.Proofs.Ytiocmebcbhbcmaa
