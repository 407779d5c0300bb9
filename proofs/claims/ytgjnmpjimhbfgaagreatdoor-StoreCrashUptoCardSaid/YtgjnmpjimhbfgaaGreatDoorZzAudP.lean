/-
  Contract of hashes.newKeyed: a key's two states.
-/
import Derived.Test.YtgjnmpjimhbfgaaGreatDoorZzOf
import Derived.Test.YtgjnmpjimhbfgaaGreatDoorZzEqB
import Derived.Deep.DeepCutAuto
import Derived.Deep.RegionHeld3
import Derived.Deep.DrawnRows
import Derived.StillTailTactics
import Derived.Test.YtgjnmpjimhbfgaaGreatDoorZzWordsB
namespace Go.Proofs.YtgjnmpjimhbfgaaGreatDoor
set_option maxRecDepth 100000
open Go.RowKit
theorem sumOf_len (kind : Int) (hs : List UInt64) (wait : List UInt8) (n : UInt64) (hk : 1 ≤ kind ∧ kind ≤ 5) (h : hs.length = 8) : (sumOf kind hs wait n).length = (hsize kind).toNat := by
 unfold sumOf
 have h8 : (absorb kind hs (wait ++ padB (bl kind) wait.length n)).length = 8 := hsTo_len _ _ _ _ _ h
 generalize absorb kind hs (wait ++ padB (bl kind) wait.length n) = sl at *
 have hw : (wordsOf kind sl).length = if bl kind = 64 then 32 else 64 := by
  unfold wordsOf
  split
  ·rw [flat_len _ _ 4 (fun _ => rfl), h8]
  ·rw [flat_len _ _ 8 (fun _ => rfl), h8]
 rw [List.length_take, hw]
 have hcase : kind = 1 ∨ kind = 2 ∨ kind = 3 ∨ kind = 4 ∨ kind = 5 := by omega
 rcases hcase with rfl | rfl | rfl | rfl | rfl <;> simp [hsize, bl, hblock]
theorem writes_len (kind : Int) (ps : List (List UInt8)) : (writes kind ps).hs.length = 8 := by
 have key : ∀ (ps : List (List UInt8)) (s : HSt), s.hs.length = 8 → (ps.foldl (HSt.write kind) s).hs.length = 8 := by
  intro ps
  induction ps with
  | nil => intro s h; exact h
  | cons p ps ih => intro s h; exact ih _ (hsTo_len _ _ _ _ _ h)
 exact key ps _ (startW_len kind)
theorem Blk.two {w : World} {g : Nat} {t : TypeId} {a b : Value} (h : Blk w g t #[a, b]) : w.cell? ⟨g, 0, none⟩ = some a ∧ w.cell? ⟨g, 1, none⟩ = some b := ⟨h.cell 0, h.cell 1⟩
theorem PartsAt.below {w w' : World} {A : Option Addr} {m c : Nat} {ls : List (List UInt8)} (h : PartsAt w A m c ls) (hb : Below w.heap.size w w') : PartsAt w' A m c ls := by
 obtain ⟨h1, h2, h3, h4⟩ := h
 refine ⟨h1, h2, h3, fun hm => ?_⟩
 obtain ⟨b, off, rfl, hlt, hc⟩ := h4 hm
 refine ⟨b, off, rfl, Nat.lt_of_lt_of_le hlt hb.size, fun i l hl => ?_⟩
 obtain ⟨A', m', c', hcell, hr⟩ := hc i l hl
 exact ⟨A', m', c', (hb.cell (p := ⟨b, off + i, none⟩) hlt).trans hcell, hr.below hb⟩
attribute [local go_sem ↓] Go.wp_at_zero Go.wp_at_succ
def W32 (w : World) (g : Nat) (l : List UInt32) : Prop := g < w.heap.size ∧ ∀ k x, l[k]? = some x → w.cell? ⟨g, k, none⟩ = some (U32 x)
theorem W32.below {w w' : World} {B g : Nat} {l : List UInt32} (h : W32 w g l) (hg : g < B) (hb : Below B w w') : W32 w' g l :=
 ⟨Nat.lt_of_lt_of_le h.1 hb.size, fun k x hx => (hb.cell (p := ⟨g, k, none⟩) hg).trans (h.2 k x hx)⟩
end Go.Proofs.YtgjnmpjimhbfgaaGreatDoor
namespace Go.Proofs.YtgjnmpjimhbfgaaGreatDoor
set_option maxRecDepth 100000
open Go.RowKit
def beTail (n : Nat) : Nat → List UInt8
 | 0 => []
 | k + 1 => UInt8.ofNat (n / 256 ^ k) :: beTail n k
theorem beTail_len (n k : Nat) : (beTail n k).length = k := by
 induction k with
 | zero => rfl
 | succ k ih => simp [beTail, ih]
theorem shr_byte32 (n k : Nat) (hk : k < 32) (hn : n < 2 ^ 32) : (UInt32.ofNat n >>> UInt32.ofNat k).toUInt8 = UInt8.ofNat (n / 2 ^ k) := by
 apply UInt8.toNat_inj.1
 rw [UInt32.toNat_toUInt8, UInt32.toNat_shiftRight, UInt32.toNat_ofNat', UInt32.toNat_ofNat', UInt8.toNat_ofNat', Nat.mod_eq_of_lt hn, Nat.mod_eq_of_lt (a := k) (by omega), Nat.mod_eq_of_lt hk, Nat.shiftRight_eq_div_pow]
theorem beTail_4 (n : Nat) (hn : n < 2 ^ 32) : beTail n 4 = bytes32 (UInt32.ofNat n) := by
 have h4 := shr_byte32 n 24 (by omega) hn
 have h5 := shr_byte32 n 16 (by omega) hn
 have h6 := shr_byte32 n 8 (by omega) hn
 have h7 : (UInt32.ofNat n).toUInt8 = UInt8.ofNat n := by
  apply UInt8.toNat_inj.1
  rw [UInt32.toNat_toUInt8, UInt32.toNat_ofNat', UInt8.toNat_ofNat', Nat.mod_eq_of_lt hn]
 unfold bytes32
 simp only [beTail]
 rw [show (24 : UInt32) = UInt32.ofNat 24 from rfl, show (16 : UInt32) = UInt32.ofNat 16 from rfl, show (8 : UInt32) = UInt32.ofNat 8 from rfl, h4, h5, h6, h7]
 simp
def WRow {α : Type} (U : α → Value) (w : World) (g : Nat) (l : List α) : Prop := g < w.heap.size ∧ ∀ k x, l[k]? = some x → w.cell? ⟨g, k, none⟩ = some (U x)
theorem WRow.keep {α : Type} {U : α → Value} {w w' : World} {g : Nat} {l : List α} (h : WRow U w g l) (hs : w.heap.size ≤ w'.heap.size) (hb : w'.heap[g]? = w.heap[g]?) : WRow U w' g l :=
 ⟨Nat.lt_of_lt_of_le h.1 hs, fun k x hx => (World.cell?_of_block (a := ⟨g, k, none⟩) hb).trans (h.2 k x hx)⟩
theorem WRow.below {α : Type} {U : α → Value} {w w' : World} {g B : Nat} {l : List α} (h : WRow U w g l) (hb : Below B w w') (hg : g < B) : WRow U w' g l := h.keep hb.size (hb.block g hg)
theorem WRow.of_own {α : Type} {U : α → Value} {w : World} {base n : Nat} {E : TypeId} {v : Value} {l : List α} (h : w.ownsRow base E 1 v n (l.map U)) (hn : n = l.length) (h0 : 0 < n) : ∃ g c, v = .slice (some ⟨g, 0, none⟩) n c ∧ WRow U w g l ∧ base ≤ g ∧ n ≤ c := by
 obtain ⟨h1, ⟨rfl, h2⟩ | ⟨g, cap, cur, rfl, hg, hh, hnc, hm, hcur, hx⟩⟩ := h
 ·omega
 ·have hlt : g < w.heap.size := by
   rcases Nat.lt_or_ge g w.heap.size with h' | h'
   ·exact h'
   ·rw [Array.getElem?_eq_none h'] at hh; cases hh
  refine ⟨g, cap, rfl, ⟨hlt, fun k x hk => ?_⟩, hg, hnc⟩
  rw [cell_of_row w g k cur _ _ hh]
  have hk' : k < n := by
   rcases Nat.lt_or_ge k l.length with h | h
   ·omega
   ·rw [List.getElem?_eq_none h] at hk; cases hk
  have : (l.map U)[k]? = some (U x) := by simp [hk]
  rw [← hx, Nat.mul_one, List.getElem?_take, if_pos hk'] at this
  simpa using this
attribute [local go_sem ↓] Go.wp_at_zero Go.wp_at_succ
end Go.Proofs.YtgjnmpjimhbfgaaGreatDoor
namespace Go.Proofs.YtgjnmpjimhbfgaaGreatDoor
set_option maxRecDepth 100000
open Go.RowKit
def RowRes (w : World) (l : List UInt8) (e : Ending) (w' : World) : Prop := ∃ A n c, e = .returned (.slice A n c) ∧ Own w' w.heap.size (.slice A n c) l ∧ Below w.heap.size w w'
theorem RowRes.of {w w' : World} {l : List UInt8} {v : Value} (ho : Own w' w.heap.size v l) (hb : Below w.heap.size w w') : RowRes w l (.returned v) w' := by
 obtain ⟨A, c, rfl, _⟩ := ho.shape
 exact ⟨A, _, c, rfl, ho, hb⟩
end Go.Proofs.YtgjnmpjimhbfgaaGreatDoor
namespace Go.Proofs.YtgjnmpjimhbfgaaGreatDoor
set_option maxRecDepth 100000
structure Ent where
 seq : Nat
 time : Nat
 fn : Nat
 rv : Nat
 slot : Nat
structure Ent.ok (e : Ent) : Prop where
 time : e.time < 9223372036854775808
 fn : e.fn < 65536
 rv : e.rv < 4294967296
 slot : e.slot < 65536
def hb (seq : Nat) (e : Ent) : List UInt8 := beTail seq 4 ++ beTail e.time 8 ++ beTail e.fn 2 ++ beTail e.rv 4 ++ beTail e.slot 2
end Go.Proofs.YtgjnmpjimhbfgaaGreatDoor
namespace Go.Proofs.YtgjnmpjimhbfgaaGreatDoor
set_option maxRecDepth 100000
open Go.RowKit
theorem get16_any (b off n c : Nat) (l : List UInt8) (w : World) (h : At w b off l) (hn : n = l.length) (h4 : 2 ≤ n) :
  Calls Tryz.prog 72 #[.slice (some ⟨b, off, none⟩) n c] w fun e w' => e = .returned (U16 (word16 l 0)) ∧ ∃ k, w' = w.drewN k := by
 have c0 := h.cellD (k := 0) (by omega)
 have c1 := h.cellD (k := 1) (by omega)
 unfold word16
 simp only [Nat.add_zero, Nat.zero_add] at *
 generalize l.getD 0 0 = x0 at *
 generalize l.getD 1 0 = x1 at *
 have l0 : (0 : Int) < n := by omega
 have l1 : (1 : Int) < n := by omega
 have H := Lib.hid hn
 have H2 := Lib.hid h
 clear hn h
 go_enter Tryz.func72, Tryz.ntmps72
 go_wp2
 go_quiet (fail)
 go_wp2
 go_ret
 exact ⟨rfl, _, rfl⟩
end Go.Proofs.YtgjnmpjimhbfgaaGreatDoor
namespace Go.Proofs.YtgjnmpjimhbfgaaGreatDoor
set_option maxRecDepth 100000
theorem beTail_2 (n : Nat) (hn : n < 2 ^ 16) : beTail n 2 = bytes16 (UInt16.ofNat n) := by
 unfold bytes16
 simp only [beTail]
 have h1 : (UInt16.ofNat n >>> 8).toUInt8 = UInt8.ofNat (n / 256 ^ 1) := by
  apply UInt8.toNat.inj
  rw [UInt16.toNat_toUInt8, UInt16.toNat_shiftRight, UInt16.toNat_ofNat', UInt8.toNat_ofNat', Nat.mod_eq_of_lt (a := n) (by omega), Nat.shiftRight_eq_div_pow]
  simp
 have h2 : (UInt16.ofNat n).toUInt8 = UInt8.ofNat (n / 256 ^ 0) := by
  apply UInt8.toNat.inj
  rw [UInt16.toNat_toUInt8, UInt16.toNat_ofNat', UInt8.toNat_ofNat']
  simp
 rw [h1, h2]
theorem shl_or (a b i : Nat) (h : b < 2 ^ i) : (a <<< i) ||| b = a * 2 ^ i + b := by
 rw [← Nat.shiftLeft_add_eq_or_of_lt h, Nat.shiftLeft_eq]
theorem word16_nat (l : List UInt8) (k : Nat) : (word16 l k).toNat = (l.getD k 0).toNat * 256 + (l.getD (k + 1) 0).toNat := by
 unfold word16
 have h0 := (l.getD k 0).toNat_lt
 have h1 := (l.getD (k + 1) 0).toNat_lt
 rw [UInt16.toNat_or, UInt16.toNat_shiftLeft, UInt8.toNat_toUInt16, UInt8.toNat_toUInt16]
 rw [show (8 : UInt16).toNat % 16 = 8 from rfl, Nat.mod_eq_of_lt (by rw [Nat.shiftLeft_eq]; omega), shl_or _ _ 8 (by omega)]
theorem word32_nat (l : List UInt8) (k : Nat) : (word32 l k).toNat = (l.getD k 0).toNat * 16777216 + (l.getD (k + 1) 0).toNat * 65536 + (l.getD (k + 2) 0).toNat * 256 + (l.getD (k + 3) 0).toNat := by
 unfold word32 be32
 have h0 := (l.getD k 0).toNat_lt
 have h1 := (l.getD (k + 1) 0).toNat_lt
 have h2 := (l.getD (k + 2) 0).toNat_lt
 have h3 := (l.getD (k + 3) 0).toNat_lt
 generalize l.getD k 0 = a at *
 generalize l.getD (k + 1) 0 = b at *
 generalize l.getD (k + 2) 0 = c at *
 generalize l.getD (k + 3) 0 = d at *
 simp only [UInt32.toNat_or, UInt32.toNat_shiftLeft, UInt8.toNat_toUInt32]
 rw [show (8 : UInt32).toNat % 32 = 8 from rfl, show (16 : UInt32).toNat % 32 = 16 from rfl, show (24 : UInt32).toNat % 32 = 24 from rfl]
 rw [Nat.mod_eq_of_lt (by rw [Nat.shiftLeft_eq]; omega), Nat.mod_eq_of_lt (by rw [Nat.shiftLeft_eq]; omega), Nat.mod_eq_of_lt (by rw [Nat.shiftLeft_eq]; omega)]
 rw [shl_or a.toNat (b.toNat <<< 16) 24 (by rw [Nat.shiftLeft_eq]; omega), Nat.shiftLeft_eq b.toNat]
 rw [show a.toNat * 2 ^ 24 + b.toNat * 2 ^ 16 = (a.toNat * 256 + b.toNat) <<< 16 by rw [Nat.shiftLeft_eq]; omega]
 rw [shl_or _ (c.toNat <<< 8) 16 (by rw [Nat.shiftLeft_eq]; omega), Nat.shiftLeft_eq c.toNat]
 rw [show (a.toNat * 256 + b.toNat) * 2 ^ 16 + c.toNat * 2 ^ 8 = ((a.toNat * 256 + b.toNat) * 256 + c.toNat) <<< 8 by rw [Nat.shiftLeft_eq]; omega]
 rw [shl_or _ _ 8 (by omega)]
 omega
end Go.Proofs.YtgjnmpjimhbfgaaGreatDoor
