/-
  Contract of (*hashes.Hash).sha256: a block is taken in.
-/
import Derived.Test.YtgjnmpjimhbfgaaGreatDoorZzWordsB
import Derived.Deep.RegionHeld3
import Derived.StillTailTactics
import Derived.Deep.MidRow
namespace Go.Proofs.YtgjnmpjimhbfgaaGreatDoor
set_option maxRecDepth 100000
open Go.RowKit
theorem bel_drewN {B : Nat} {w w' : World} (h : Below B w w') (n : Nat) : Below B w (w'.drewN n) := ⟨h.os, h.tape, h.output, h.size, h.block⟩
def part {α : Type} (U : α → Value) (z : Value) (l : List α) (n : Nat) : Array Value := (l.map U ++ List.replicate (n - l.length) z).toArray
theorem part_get {α : Type} (U : α → Value) (z : Value) (l : List α) (n k : Nat) (x : α) (h : l[k]? = some x) : (part U z l n)[k]? = some (U x) := by
 have hk := (List.getElem?_eq_some_iff.1 h).1
 simp only [part, List.getElem?_toArray]
 rw [List.getElem?_append_left (by simpa using hk), List.getElem?_map, h]; rfl
theorem part_set {α : Type} (U : α → Value) (z : Value) (l : List α) (n : Nat) (x : α) (h : l.length < n) : (part U z l n).setIfInBounds l.length (U x) = part U z (l ++ [x]) n := by
 simp only [part, List.setIfInBounds_toArray]
 congr 1
 rw [List.set_append_right _ _ (by simp)]
 have : n - l.length = (n - (l ++ [x]).length) + 1 := by simp; omega
 rw [this, List.replicate_succ]
 simp
theorem part_setk {α : Type} (U : α → Value) (z : Value) (l : List α) (n k : Nat) (x : α) (hk : l.length = k) (h : k < n) : (part U z l n).setIfInBounds k (U x) = part U z (l ++ [x]) n := by
 subst hk; exact part_set U z l n x h
theorem part_full {α : Type} (U : α → Value) (z : Value) (l : List α) (n : Nat) (h : l.length = n) : part U z l n = (l.map U).toArray := by simp [part, h]
theorem part_next {α : Type} (U : α → Value) (z : Value) (l : List α) (n k : Nat) (hk : l.length = k) (h : k < n) : (part U z l n)[k]? = some z := by
 simp only [part, List.getElem?_toArray]
 rw [List.getElem?_append_right (by simp [hk]), List.getElem?_replicate, if_pos (by simp only [List.length_map]; omega)]
theorem part_getD {α : Type} (U : α → Value) (z : Value) (l : List α) (n k : Nat) (x : α) (h : k < l.length) : (part U z l n)[k]? = some (U (l.getD k x)) :=
 part_get U z l n k _ (by simp [List.getD, h])
def hcells (kind : Int) (hs : List UInt64) (wv : Value) (n : UInt64) : Array Value := (.int .i64 kind :: (hs.map U64 ++ [wv, U64 n])).toArray
theorem hcells_get (kind : Int) (hs : List UInt64) (wv : Value) (n : UInt64) (i : Nat) (x : UInt64) (h : hs[i]? = some x) : (hcells kind hs wv n)[1 + i]? = some (U64 x) := by
 have hi := (List.getElem?_eq_some_iff.1 h).1
 unfold hcells
 rw [List.getElem?_toArray, Nat.add_comm 1 i, List.getElem?_cons_succ, List.getElem?_append_left (by simpa using hi), List.getElem?_map, h]; rfl
theorem hcells_set (kind : Int) (hs : List UInt64) (wv : Value) (n : UInt64) (i : Nat) (x : UInt64) (h : i < hs.length) : (hcells kind hs wv n).setIfInBounds (1 + i) (U64 x) = hcells kind (hs.set i x) wv n := by
 unfold hcells
 rw [List.setIfInBounds_toArray, Nat.add_comm 1 i, List.set_cons_succ, List.set_append_left _ _ (by simpa using h)]
 simp
theorem Blk.range {w : World} {g : Nat} {t : TypeId} {cs : List Value} (h : Blk w g t cs.toArray) : w.rangeAt g 0 cs := fun j v hv => by
 rw [h.cell, List.getElem?_toArray, Nat.zero_add, hv]
theorem blk8 {w : World} {g : Nat} {t : TypeId} {a b c d e f h i : UInt32} (H : Blk w g t ((⟨a, b, c, d, e, f, h, i⟩ : V8 UInt32).list.map U32).toArray) :
  w.cell? ⟨g, 0, none⟩ = some (U32 a) ∧ w.cell? ⟨g, 1, none⟩ = some (U32 b) ∧ w.cell? ⟨g, 2, none⟩ = some (U32 c) ∧ w.cell? ⟨g, 3, none⟩ = some (U32 d) ∧ w.cell? ⟨g, 4, none⟩ = some (U32 e) ∧ w.cell? ⟨g, 5, none⟩ = some (U32 f) ∧ w.cell? ⟨g, 6, none⟩ = some (U32 h) ∧ w.cell? ⟨g, 7, none⟩ = some (U32 i) :=
 ⟨H.cell 0, H.cell 1, H.cell 2, H.cell 3, H.cell 4, H.cell 5, H.cell 6, H.cell 7⟩
def KAt (w : World) : Prop := 1 < w.heap.size ∧ ∀ i x, kTab[i]? = some x → w.cell? ⟨1, i, none⟩ = some (U64 x)
theorem KAt.belowB {w w' : World} {B : Nat} (h : KAt w) (hb : Below B w w') (h0 : 1 < B) : KAt w' :=
 ⟨Nat.lt_of_lt_of_le h.1 hb.size, fun i x hx => (hb.cell (p := ⟨1, i, none⟩) h0).trans (h.2 i x hx)⟩
theorem KAt.below {w w' : World} (h : KAt w) (hb : Below w.heap.size w w') : KAt w' := h.belowB hb h.1
theorem KAt.turn {w w' : World} {S : List Nat} (h : KAt w) (hb : Turn S w w') (hn : 1 ∉ S) : KAt w' :=
 ⟨Nat.lt_of_lt_of_le h.1 hb.size, fun i x hx => cell_turn (h.2 i x hx) hb hn⟩
theorem KAt.at_ {w : World} (h : KAt w) {k : Nat} (hk : k < 80) : w.cell? ⟨1, k, none⟩ = some (U64 (kTab.getD k 0)) :=
 h.2 k _ (by simp [List.getD, show k < kTab.length from hk])
set_option maxRecDepth 100000 in
set_option maxHeartbeats 2000000 in
theorem sha256_any (d : Nat) (kind : Int) (hs : List UInt64) (wv : Value) (cnt : UInt64) (b off c : Nat) (p : List UInt8) (w : World) (h : Blk w d 168 (hcells kind hs wv cnt)) (h8 : hs.length = 8)
  (hp : At w b off p) (hpl : p.length = 64) (hc : 64 ≤ c) (hcm : c ≤ maxLen) (hK : KAt w) (hd0 : d ≠ 1) :
  Calls Tryz.prog 155 #[.pointer (some ⟨d, 0, none⟩), .slice (some ⟨b, off, none⟩) 64 c] w fun e w' => e = .returned (.tuple #[]) ∧ Blk w' d 168 (hcells kind (take256 hs p) wv cnt) ∧ Turn [d] w w' := by
 have HK := Lib.hid hK
 have Hd0 := Lib.hid hd0
 clear hK hd0
 unfold maxLen at hcm
 have HP := Lib.hid hp
 have HD := Lib.hid h
 have Hpl := Lib.hid hpl
 have H8 := Lib.hid h8
 clear hp h hpl h8
 go_enter Tryz.func155, Tryz.ntmps155
 go_wp2_with fail
 have hb0 : Blk (w.alloc (.cells (part U32 (.int .u32 0) [] 64) 199)) w.heap.size 199 (part U32 (.int .u32 0) [] 64) := Blk.new w _ _
 have hT0 : Below w.heap.size w (w.alloc (.cells (part U32 (.int .u32 0) [] 64) 199)) := (Below.refl _ _).alloc (Nat.le_refl _) _
 change Code.wp _ _ _ _ (w.alloc (.cells (part U32 (.int .u32 0) [] 64) 199))
 generalize hw0 : w.alloc (.cells (part U32 (.int .u32 0) [] 64) 199) = w0 at *
 clear hw0
 go_loopw [21] (fun i wr => ∃ k : Nat, k ≤ 64 ∧ i = .int .i64 k ∧ Blk wr w.heap.size 199 (part U32 (.int .u32 0) (sched256 p k) 64) ∧ Below w.heap.size w wr) (fun i _ => 64 - (intOf i).toNat)
 case atStart => exact ⟨0, by omega, rfl, hb0, hT0⟩
 case round =>
  obtain ⟨k, hk, rfl, hB, hT⟩ := hrel
  clear hb0 hT0
  have hlk : (sched256 p k).length = k := schedTo_len _ _ _
  rcases Nat.lt_or_ge k 64 with hlt | hge
  ·rcases Nat.lt_or_ge k 16 with h16 | h16
   ·have hs := Lib.hid (show sched256 p (k + 1) = sched256 p k ++ [word32 p (4 * k)] by show _ ++ [_] = _; rw [if_pos (by omega)]; rfl)
    have ck := (hB.cell k).trans (part_next U32 (.int .u32 0) (sched256 p k) 64 k hlk hlt)
    have fk := hB.frozen k
    have hat := ((HP.out.keep hT.size (hT.block b HP.out.1)).drop (4 * k))
    have hG := Lib.hid (get32_any b (off + 4 * k) (64 - 4 * k) (c - 4 * k) (p.drop (4 * k)) wr hat (by rw [List.length_drop, Hpl.out]) (by omega))
    have HB := Lib.hid hB
    have HT := Lib.hid hT
    have Hlk := Lib.hid hlk
    have hki : (k : Int) < 16 := by omega
    have hw0 : word32 (p.drop (4 * k)) 0 = word32 p (4 * k) := by simp [word32, List.getD]
    rw [← hw0] at hs
    clear hB hT hlk hlt h16 hk hat hw0
    go_wp2_with fail
    refine hG.out.mono ?_
    rintro e w' ⟨rfl, nq, rfl⟩
    have ck : (wr.drewN nq).cell? ⟨w.heap.size, k, none⟩ = _ := ck
    have fk : (wr.drewN nq).frozen? ⟨w.heap.size, k, none⟩ = false := fk
    go_wp2_with fail
    go_roundw
    case rel =>
     refine ⟨k + 1, by omega, by go_num, ?_, ?_⟩
     ·rw [hs.out]
      have := (HB.out.drewN nq).set_ k (U32 (word32 (p.drop (4 * k)) 0))
      rw [part_setk _ _ _ _ _ _ Hlk.out (by omega)] at this
      exact this
     ·exact (bel_drewN HT.out nq).setCell (Nat.le_refl _) _
    case measure => simp [intOf]; omega
   ·have hs := Lib.hid (show sched256 p (k + 1) = sched256 p k ++ [next256 (sched256 p k) k] by show _ ++ [_] = _; rw [if_neg (by omega)]; rfl)
    have c16 := (hB.cell (k - 16)).trans (part_getD _ _ _ _ _ 0 (by omega))
    have c15 := (hB.cell (k - 15)).trans (part_getD _ _ _ _ _ 0 (by omega))
    have c7 := (hB.cell (k - 7)).trans (part_getD _ _ _ _ _ 0 (by omega))
    have c2 := (hB.cell (k - 2)).trans (part_getD _ _ _ _ _ 0 (by omega))
    have ck := (hB.cell k).trans (part_next U32 (.int .u32 0) (sched256 p k) 64 k hlk hlt)
    have fk := hB.frozen k
    have HB := Lib.hid hB
    have HT := Lib.hid hT
    unfold next256 at hs
    generalize (sched256 p k).getD (k - 16) 0 = x16 at *
    generalize (sched256 p k).getD (k - 15) 0 = x15 at *
    generalize (sched256 p k).getD (k - 7) 0 = x7 at *
    generalize (sched256 p k).getD (k - 2) 0 = x2 at *
    have hki : (k : Int) < 64 := by omega
    have hk16 : (16 : Int) ≤ k := by omega
    have Hlk := Lib.hid hlk
    clear hB hT hlk hlt h16 hk
    go_wp2_with fail
    go_quiet (fail)
    replace c16 : (wr.drewN nq).cell? ⟨w.heap.size, k - 16, none⟩ = _ := c16
    replace c7 : (wr.drewN nq).cell? ⟨w.heap.size, k - 7, none⟩ = _ := c7
    replace ck : (wr.drewN nq).cell? ⟨w.heap.size, k, none⟩ = _ := ck
    replace fk : (wr.drewN nq).frozen? ⟨w.heap.size, k, none⟩ = false := fk
    replace HB : Hid (Blk (wr.drewN nq) _ _ _) := HB
    replace HT : Hid (Below _ _ (wr.drewN nq)) := Lib.hid (bel_drewN HT.out nq)
    clear c15 c2
    generalize wr.drewN nq = w1 at *
    clear wr
    go_wp2_with fail
    refine (rot32_any _ _ 25 _ (by decide) (by decide)).mono ?_
    rintro e w' ⟨rfl, rfl⟩
    go_wp2_with fail
    refine (rot32_any _ _ 14 _ (by decide) (by decide)).mono ?_
    rintro e w' ⟨rfl, rfl⟩
    go_wp2_with fail
    refine (rot32_any _ _ 15 _ (by decide) (by decide)).mono ?_
    rintro e w' ⟨rfl, rfl⟩
    go_wp2_with fail
    refine (rot32_any _ _ 13 _ (by decide) (by decide)).mono ?_
    rintro e w' ⟨rfl, rfl⟩
    go_wp2_with fail
    have g1 : IntKind.i64.wrap ((k : Int) - 16) = (k : Int) - 16 := IntWalk.i64_in _ (by omega)
    have g2 : ((k : Int) - 16).toNat = k - 16 := by omega
    have g3 : IntKind.i64.wrap ((k : Int) - 7) = (k : Int) - 7 := IntWalk.i64_in _ (by omega)
    have g4 : ((k : Int) - 7).toNat = k - 7 := by omega
    have g5 : (7 : Int) ≤ k := by omega
    have g6 : (k : Int) - 16 < 64 := by omega
    have g7 : (k : Int) - 7 < 64 := by omega
    go_still_tail 15, (by kernel_rfl)
    go_wp2_with fail
    go_roundw
    case rel =>
     refine ⟨k + 1, by omega, by go_num, ?_, ?_⟩
     ·rw [hs.out]
      have := (HB.out.set_ k (U32 (x16 + (rotl32 x15 25 ^^^ rotl32 x15 14 ^^^ x15 >>> 3) + x7 + (rotl32 x2 15 ^^^ rotl32 x2 13 ^^^ x2 >>> 10)))).drew
      rw [part_setk _ _ _ _ _ _ Hlk.out (by omega)] at this
      exact this
     ·exact (HT.out.setCell (Nat.le_refl _) _).drew
    case measure => simp [intOf]; omega
  ·obtain rfl : k = 64 := by omega
   have HT := Lib.hid hT
   have Hlk := Lib.hid hlk
   rw [part_full _ _ _ _ hlk] at hB
   have HB := Lib.hid hB
   clear hT hlk hB hk hge
   go_wp2_with fail
   have hb0 : Blk (wr.alloc (.cells (part U32 (.int .u32 0) [] 8) 200)) wr.heap.size 200 (part U32 (.int .u32 0) [] 8) := Blk.new wr _ _
   have hT0 : Below wr.heap.size wr (wr.alloc (.cells (part U32 (.int .u32 0) [] 8) 200)) := (Below.refl _ _).alloc (Nat.le_refl _) _
   change Code.wp _ _ _ _ (wr.alloc (.cells (part U32 (.int .u32 0) [] 8) 200))
   generalize hw1 : wr.alloc (.cells (part U32 (.int .u32 0) [] 8) 200) = w1 at *
   clear hw1
   have hS := HB.out.below hT0
   have hgv := HB.out.lt
   have HT2 := Lib.hid (HT.out.trans (hT0.mono HT.out.size))
   have hlv : wr.heap.size < w1.heap.size := hb0.lt
   generalize wr.heap.size = gv at *
   have hD1 := Lib.hid (HD.out.below HT2.out)
   have hdg : d < gv := Nat.lt_of_lt_of_le HD.out.lt (Nat.le_of_lt hgv)
   have HS := Lib.hid hS
   clear HT HB hS hT0
   clear wr
   have hsll : (sched256 p 64).length = 64 := schedTo_len _ _ _
   generalize hsl : sched256 p 64 = sl at *
   have Hsl := Lib.hid hsl
   clear hsl
   go_loopw [73] (fun i wr => ∃ k : Nat, k ≤ 8 ∧ i = .int .i64 k ∧ Blk wr gv 200 (part U32 (.int .u32 0) ((hs.map UInt64.toUInt32).take k) 8) ∧ Below gv w1 wr) (fun i _ => 8 - (intOf i).toNat)
   case atStart => exact ⟨0, by omega, rfl, hb0, Below.refl _ _⟩
   case round =>
    obtain ⟨k, hk, rfl, hB, hT⟩ := hrel
    clear hb0
    have hlk : ((hs.map UInt64.toUInt32).take k).length = k := by rw [List.length_take, List.length_map, H8.out]; omega
    rcases Nat.lt_or_ge k 8 with hlt | hge
    ·obtain ⟨x, hx⟩ : ∃ x, hs[k]? = some x := ⟨_, List.getElem?_eq_getElem (by rw [H8.out]; exact hlt)⟩
     have cx := ((hD1.out.keep (hT.block d hdg)).cell (1 + k)).trans (hcells_get kind hs wv cnt k x hx)
     have ck := (hB.cell k).trans (part_next U32 (.int .u32 0) _ 8 k hlk hlt)
     have fk := hB.frozen k
     have hs1 := Lib.hid (show (hs.map UInt64.toUInt32).take (k + 1) = (hs.map UInt64.toUInt32).take k ++ [x.toUInt32] by rw [List.take_add_one, List.getElem?_map, hx]; rfl)
     have hki : (k : Int) < 8 := by omega
     have HB := Lib.hid hB
     have HT := Lib.hid hT
     have Hlk := Lib.hid hlk
     clear hB hT hlk hlt hk hx
     go_wp2_with fail
     go_roundw
     case rel =>
      refine ⟨k + 1, by omega, by go_num, ?_, HT.out.setCell (Nat.le_refl _) _⟩
      rw [hs1.out]
      have := HB.out.set_ k (U32 x.toUInt32)
      rw [part_setk _ _ _ _ _ _ Hlk.out (by omega)] at this
      exact this
     case measure => simp [intOf]; omega
    ·obtain rfl : k = 8 := by omega
     rw [part_full _ _ _ _ hlk, List.take_of_length_le (by rw [List.length_map, H8.out]; omega)] at hB
     have HT := Lib.hid hT
     have HB := Lib.hid hB
     clear hT hB hlk hk hge
     have hr := (HS.out.keep (HT.out.block _ hgv))
     have hrg := hr.range
     have hi64 : (Tryz.prog.info? 199).map (·.size) = some (sl.map U32).length := by rw [List.length_map, hsll]; kernel_rfl
     have HR := Lib.hid (And.intro hrg hi64)
     clear hrg hi64 hr
     go_wp2_with (refine wpList_load_mid rfl 199 (.tmp 4) rfl w.heap.size 0 rfl (sl.map U32) _ HR.out.1 Tryz.underlying199 rfl HR.out.2 ?_)
     obtain ⟨AW, hAW⟩ : ∃ AW, (sl.map U32).toArray = AW := ⟨_, rfl⟩
     have hAx : ∀ k, k < 64 → AW[k]? = some (U32 (sl.getD k 0)) := fun k hk => by rw [← hAW]; simp [List.getD, show k < sl.length by omega]
     have HAx := Lib.hid hAx
     rw [hAW]
     clear hAW hAx HR
     have hDr := Lib.hid (hD1.out.keep (HT.out.block d hdg))
     have hKr := Lib.hid ((HK.out.below HT2.out).belowB HT.out (Nat.lt_trans HK.out.1 hgv))
     have HTr := Lib.hid (HT2.out.trans (HT.out.mono (Nat.le_of_lt hgv)))
     have hvo : (hs.map UInt64.toUInt32).map U32 = (run256 kTab32 sl (V8.of (hs.map UInt64.toUInt32)) 0).list.map U32 := by
      have h8 := H8.out
      match hs, h8 with
      | [_, _, _, _, _, _, _, _], _ => rfl
     have hB3 := HB.out
     rw [hvo] at hB3
     clear hvo HB
     generalize hv0 : V8.of (hs.map UInt64.toUInt32) = v0 at *
     have Hv0 := Lib.hid hv0
     have h0g : 1 < gv := Nat.lt_trans HK.out.1 hgv
     have hgvw : w.heap.size < gv := hgv
     clear hv0 HT HT2 HS hD1 hlv
     generalize hw3 : wr = w3 at *
     clear hw3
     go_loopw [87] (fun i wr => ∃ k : Nat, k ≤ 64 ∧ i = .int .i64 k ∧ Blk wr gv 200 ((run256 kTab32 sl v0 k).list.map U32).toArray ∧ Below gv w3 wr) (fun i _ => 64 - (intOf i).toNat)
     case atStart => exact ⟨0, by omega, rfl, hB3, Below.refl _ _⟩
     case round =>
      obtain ⟨k, hk, rfl, hB, hT⟩ := hrel
      clear hB3
      rcases Nat.lt_or_ge k 64 with hlt | hge
      ·--ROUND3
       have HKk := Lib.hid ((hKr.out.belowB hT h0g).at_ (k := k) (by omega))
       have hix := fun w => index_arr (t := 199) (q := .i64) Tryz.underlying199 Tryz.underlying115 (by kernel_rfl) hlt (HAx.out k hlt) w
       have hsc := Lib.hid (show run256 kTab32 sl v0 (k + 1) = step256 (run256 kTab32 sl v0 k) (kTab32.getD k 0) (sl.getD k 0) from rfl)
       rw [kTab32_get k (by omega)] at hsc
       generalize kTab.getD k 0 = kk at *
       generalize sl.getD k 0 = x at *
       generalize run256 kTab32 sl v0 k = V at *
       obtain ⟨va, vb, vc, vd, ve, vf, vg, vh⟩ := V
       obtain ⟨c0, c1, c2, c3, c4, c5, c6, c7⟩ := blk8 hB
       have fz := hB.frozen
       have ck := HKk.out
       have hki : (k : Int) < 64 := by omega
       have hk80 : (k : Int) < 80 := by omega
       have hk0 : (0 : Int) ≤ k := by omega
       have HB := Lib.hid hB
       have HT := Lib.hid hT
       clear hB hT hlt hk fz
       go_wp2_with fail
       go_quiet (fail)
       replace HB := Lib.hid (HB.out.drewN nq)
       replace HT := Lib.hid (bel_drewN HT.out nq)
       replace HKk : Hid ((wr.drewN nq).cell? ⟨1, k, none⟩ = some (U64 kk)) := HKk
       clear c0 c1 c2 c3 c4 c5 c6 c7 ck
       generalize wr.drewN nq = w4 at *
       clear wr
       obtain ⟨c0, c1, c2, c3, c4, c5, c6, c7⟩ := blk8 HB.out
       have ck := HKk.out
       go_wp2_with fail
       refine (rot32_any _ _ 26 _ (by decide) (by decide)).mono ?_
       rintro e w' ⟨rfl, rfl⟩
       go_wp2_with fail
       refine (rot32_any _ _ 21 _ (by decide) (by decide)).mono ?_
       rintro e w' ⟨rfl, rfl⟩
       go_wp2_with fail
       refine (rot32_any _ _ 7 _ (by decide) (by decide)).mono ?_
       rintro e w' ⟨rfl, rfl⟩
       go_wp2_with fail
       go_quiet (fail)
       replace HB := Lib.hid (HB.out.drewN nq)
       replace HT := Lib.hid (bel_drewN HT.out nq)
       replace HKk : Hid ((w4.drewN nq).cell? ⟨1, k, none⟩ = some (U64 kk)) := HKk
       clear c0 c1 c2 c3 c4 c5 c6 c7 ck
       generalize w4.drewN nq = w5 at *
       clear w4
       obtain ⟨c0, c1, c2, c3, c4, c5, c6, c7⟩ := blk8 HB.out
       have ck := HKk.out
       go_wp2_with fail
       refine (rot32_any _ _ 30 _ (by decide) (by decide)).mono ?_
       rintro e w' ⟨rfl, rfl⟩
       go_wp2_with fail
       refine (rot32_any _ _ 19 _ (by decide) (by decide)).mono ?_
       rintro e w' ⟨rfl, rfl⟩
       go_wp2_with fail
       refine (rot32_any _ _ 10 _ (by decide) (by decide)).mono ?_
       rintro e w' ⟨rfl, rfl⟩
       go_wp2_with (first | (refine wpList_build_at rfl 200 _ rfl #[U32 (t256 ⟨va, vb, vc, vd, ve, vf, vg, vh⟩ (kk >>> 32).toUInt32 x + u256 ⟨va, vb, vc, vd, ve, vf, vg, vh⟩), U32 va, U32 vb, U32 vc, U32 (vd + t256 ⟨va, vb, vc, vd, ve, vf, vg, vh⟩ (kk >>> 32).toUInt32 x), U32 ve, U32 vf, U32 vg] (by rfl) ?_) | (refine wpList_store_arr rfl 200 (.tmp 10) _ rfl gv 200 _ [U32 (t256 ⟨va, vb, vc, vd, ve, vf, vg, vh⟩ (kk >>> 32).toUInt32 x + u256 ⟨va, vb, vc, vd, ve, vf, vg, vh⟩), U32 va, U32 vb, U32 vc, U32 (vd + t256 ⟨va, vb, vc, vd, ve, vf, vg, vh⟩ (kk >>> 32).toUInt32 x), U32 ve, U32 vf, U32 vg] HB.out rfl rfl (by kernel_rfl) (by rfl) (by rfl) ?_; intro w6 hB6 hT6))
       refine ⟨⟨k + 1, by omega, by go_num, ?_, ?_⟩, by simp [intOf]; omega⟩
       ·rw [hsc.out]; exact hB6
       ·exact below_turn HT.out hT6 (by simp) (Nat.le_of_lt HB.out.lt)
      ·--AFTER3
       obtain rfl : k = 64 := by omega
       clear hk hge HAx
       have hq : ¬ ((64 : Int) < 64) := by omega
       have HB := Lib.hid hB
       have HT := Lib.hid hT
       clear hB hT
       go_wp2_with (refine wpList_load_arr rfl 200 (.tmp 10) rfl gv 200 _ HB.out rfl _ Tryz.underlying200 rfl (by kernel_rfl) ?_)
       have hnew : ∀ k x, (run256 kTab32 sl v0 64).list[k]? = some x → ((run256 kTab32 sl v0 64).list.map U32).toArray[k]? = some (U32 x) := fun k x h => by rw [List.getElem?_toArray, List.getElem?_map, h]; rfl
       have hout : take256 hs p = List.zipWith (fun h x => (h.toUInt32 + x).toUInt64) hs (run256 kTab32 sl v0 64).list := by unfold take256 out256; rw [Hsl.out, Hv0.out]
       have hol : (run256 kTab32 sl v0 64).list.length = 8 := rfl
       have hDw := Lib.hid (hDr.out.keep (HT.out.block d hdg))
       have hTw := Lib.hid (Turn.of_below [d] (HTr.out.trans (HT.out.mono (Nat.le_of_lt hgvw))))
       generalize (run256 kTab32 sl v0 64).list = ol at *
       generalize (ol.map U32).toArray = OA at *
       have Hnew := Lib.hid hnew
       have Hout := Lib.hid hout
       have Hol := Lib.hid hol
       clear hnew hout hol HT HB
       generalize hwz : wr = wz at *
       clear hwz
       go_loopw [171] (fun i wr => ∃ k : Nat, k ≤ 8 ∧ i = .int .i64 k ∧ Blk wr d 168 (hcells kind (mixTo (take256 hs p) hs k) wv cnt) ∧ Turn [d] w wr) (fun i _ => 8 - (intOf i).toNat)
       case atStart => exact ⟨0, by omega, rfl, by simpa [mixTo] using hDw.out, hTw.out⟩
       case round =>
        obtain ⟨k, hk, rfl, hB, hT⟩ := hrel
        have hnl : (take256 hs p).length = 8 := by rw [Hout.out]; simp [H8.out, Hol.out]
        rcases Nat.lt_or_ge k 8 with hlt | hge
        ·obtain ⟨x, hx⟩ : ∃ x, hs[k]? = some x := ⟨_, List.getElem?_eq_getElem (by rw [H8.out]; exact hlt)⟩
         obtain ⟨y, hy⟩ : ∃ y, ol[k]? = some y := ⟨_, List.getElem?_eq_getElem (by rw [Hol.out]; exact hlt)⟩
         have hm : (mixTo (take256 hs p) hs k)[k]? = some x := (mixTo_get _ _ _ (by omega)).trans hx
         have hmx : (take256 hs p)[k]? = some (x.toUInt32 + y).toUInt64 := by rw [Hout.out, List.getElem?_zipWith, hx, hy]
         have cx := (hB.cell (1 + k)).trans (hcells_get kind _ wv cnt k x hm)
         have fx := hB.frozen (1 + k)
         have hix := fun w => index_arr (t := 200) (q := .i64) Tryz.underlying200 Tryz.underlying115 (by kernel_rfl) hlt (Hnew.out k y hy) w
         have hki : (k : Int) < 8 := by omega
         have hk0 : (0 : Int) ≤ k := by omega
         have HM := Lib.hid (And.intro hmx (And.intro hnl hx))
         have HB := Lib.hid hB
         have HT := Lib.hid hT
         clear hB hT hlt hk hx hy hm hmx hnl
         go_wp2_with fail
         go_still_tail 15, (by kernel_rfl)
         go_wp2_with fail
         obtain ⟨hmx, hnl, hx⟩ := HM.out
         refine ⟨⟨k + 1, by omega, by go_num, ?_, (HT.out.setCell (.inl (by simp)) _).drew⟩, by simp [intOf]; omega⟩
         have hz : (x % 4294967296 + y.toUInt64) % 4294967296 = (x.toUInt32 + y).toUInt64 := by simp
         rw [hz]
         have := (HB.out.set_ (1 + k) (U64 (x.toUInt32 + y).toUInt64)).drew
         rw [hcells_set _ _ _ _ _ _ (by rw [mixTo_len _ _ _ (by omega) (by rw [hnl, H8.out]; omega), H8.out]; omega), mixTo_set _ _ _ _ hmx (by rw [H8.out]; omega)] at this
         exact this
        ·obtain rfl : k = 8 := by omega
         have hq : ¬ ((8 : Int) < 8) := by omega
         have HB := Lib.hid hB
         have HT := Lib.hid hT
         have HN := Lib.hid hnl
         clear hB hT hnl
         go_wp2_with fail
         go_end0
         refine ⟨rfl, ?_, HT.out⟩
         have := HB.out
         unfold mixTo at this
         rw [List.drop_eq_nil_of_le (by rw [H8.out]; omega), List.append_nil, List.take_of_length_le (by rw [HN.out]; omega)] at this
         exact this
theorem mixTo_done {α : Type} (new old : List α) (n : Nat) (hn : n ≤ new.length) (h : ∀ i, n ≤ i → new[i]? = old[i]?) : mixTo new old n = new := by
 apply List.ext_getElem?
 intro i
 unfold mixTo
 have e : (new.take n).length = n := by rw [List.length_take]; omega
 rcases Nat.lt_or_ge i n with hi | hi
 ·rw [List.getElem?_append_left (by omega), List.getElem?_take, if_pos hi]
 ·rw [List.getElem?_append_right (by omega), e, List.getElem?_drop, h i hi]
  congr 1; omega
theorem rot32_still (x : UInt32) (k : Int) (n : Nat) (w : World) (hk : k % 32 = n) (h0 : 0 < n) :
  Calls Tryz.prog 165 #[U32 x, .int .i64 k] w fun e w'' => e = .returned (U32 (rotl32 x n)) ∧ w'' = w := (rot32_any x k n w hk h0).mono fun _ _ h => ⟨h.1, h.2.symm⟩
set_option maxRecDepth 100000 in
set_option maxHeartbeats 2000000 in
theorem sha1_any (d : Nat) (kind : Int) (hs : List UInt64) (wv : Value) (cnt : UInt64) (b off c : Nat) (p : List UInt8) (w : World) (h : Blk w d 168 (hcells kind hs wv cnt)) (h8 : hs.length = 8)
  (hp : At w b off p) (hpl : p.length = 64) (hc : 64 ≤ c) (hcm : c ≤ maxLen) :
  Calls Tryz.prog 154 #[.pointer (some ⟨d, 0, none⟩), .slice (some ⟨b, off, none⟩) 64 c] w fun e w' => e = .returned (.tuple #[]) ∧ Blk w' d 168 (hcells kind (take1 hs p) wv cnt) ∧ Turn [d] w w' := by
 unfold maxLen at hcm
 have HP := Lib.hid hp
 have HD := Lib.hid h
 have Hpl := Lib.hid hpl
 have H8 := Lib.hid h8
 clear hp h hpl h8
 have hal0 : ∀ w : World, (Instr.alloc 196 true (.tuple #[])).run Tryz.prog w = .ok (.pointer (some ⟨w.heap.size, 0, none⟩)) (w.alloc (.cells (part U32 (.int .u32 0) [] 80) 196)) := fun _ => by kernel_rfl
 have HAL := Lib.hid hal0
 clear hal0
 go_enter Tryz.func154, Tryz.ntmps154
 go_wp2_with (refine wpList_alloc_at rfl 196 rfl _ (HAL.out _) ?_)
 clear HAL
 have hb0 : Blk (w.alloc (.cells (part U32 (.int .u32 0) [] 80) 196)) w.heap.size 196 (part U32 (.int .u32 0) [] 80) := Blk.new w _ _
 have hT0 : Below w.heap.size w (w.alloc (.cells (part U32 (.int .u32 0) [] 80) 196)) := (Below.refl _ _).alloc (Nat.le_refl _) _
 change Code.wp _ _ _ _ (w.alloc (.cells (part U32 (.int .u32 0) [] 80) 196))
 generalize hw0 : w.alloc (.cells (part U32 (.int .u32 0) [] 80) 196) = w0 at *
 clear hw0
 go_loopw [17] (fun i wr => ∃ k : Nat, k ≤ 80 ∧ i = .int .i64 k ∧ Blk wr w.heap.size 196 (part U32 (.int .u32 0) (sched1 p k) 80) ∧ Below w.heap.size w wr) (fun i _ => 80 - (intOf i).toNat)
 case atStart => exact ⟨0, by omega, rfl, hb0, hT0⟩
 case round =>
  obtain ⟨k, hk, rfl, hB, hT⟩ := hrel
  clear hb0 hT0
  have hlk : (sched1 p k).length = k := schedTo_len _ _ _
  rcases Nat.lt_or_ge k 80 with hlt | hge
  ·rcases Nat.lt_or_ge k 16 with h16 | h16
   ·have hs := Lib.hid (show sched1 p (k + 1) = sched1 p k ++ [word32 p (4 * k)] by show _ ++ [_] = _; rw [if_pos (by omega)]; rfl)
    have ck := (hB.cell k).trans (part_next U32 (.int .u32 0) (sched1 p k) 80 k hlk hlt)
    have fk := hB.frozen k
    have hat := ((HP.out.keep hT.size (hT.block b HP.out.1)).drop (4 * k))
    have hG := Lib.hid (get32_any b (off + 4 * k) (64 - 4 * k) (c - 4 * k) (p.drop (4 * k)) wr hat (by rw [List.length_drop, Hpl.out]) (by omega))
    have HB := Lib.hid hB
    have HT := Lib.hid hT
    have Hlk := Lib.hid hlk
    have hki : (k : Int) < 16 := by omega
    have hw0 : word32 (p.drop (4 * k)) 0 = word32 p (4 * k) := by simp [word32, List.getD]
    rw [← hw0] at hs
    clear hB hT hlk hlt h16 hk hat hw0
    go_wp2_with fail
    refine hG.out.mono ?_
    rintro e w' ⟨rfl, nq, rfl⟩
    have ck : (wr.drewN nq).cell? ⟨w.heap.size, k, none⟩ = _ := ck
    have fk : (wr.drewN nq).frozen? ⟨w.heap.size, k, none⟩ = false := fk
    go_wp2_with fail
    go_roundw
    case rel =>
     refine ⟨k + 1, by omega, by go_num, ?_, ?_⟩
     ·rw [hs.out]
      have := (HB.out.drewN nq).set_ k (U32 (word32 (p.drop (4 * k)) 0))
      rw [part_setk _ _ _ _ _ _ Hlk.out (by omega)] at this
      exact this
     ·exact (bel_drewN HT.out nq).setCell (Nat.le_refl _) _
    case measure => simp [intOf]; omega
   ·have hs := Lib.hid (show sched1 p (k + 1) = sched1 p k ++ [next1 (sched1 p k) k] by show _ ++ [_] = _; rw [if_neg (by omega)]; rfl)
    have c16 := (hB.cell (k - 16)).trans (part_getD _ _ _ _ _ 0 (by omega))
    have c14 := (hB.cell (k - 14)).trans (part_getD _ _ _ _ _ 0 (by omega))
    have c8 := (hB.cell (k - 8)).trans (part_getD _ _ _ _ _ 0 (by omega))
    have c3 := (hB.cell (k - 3)).trans (part_getD _ _ _ _ _ 0 (by omega))
    have ck := (hB.cell k).trans (part_next U32 (.int .u32 0) (sched1 p k) 80 k hlk hlt)
    have fk := hB.frozen k
    have HB := Lib.hid hB
    have HT := Lib.hid hT
    unfold next1 at hs
    generalize (sched1 p k).getD (k - 16) 0 = x16 at *
    generalize (sched1 p k).getD (k - 14) 0 = x14 at *
    generalize (sched1 p k).getD (k - 8) 0 = x8 at *
    generalize (sched1 p k).getD (k - 3) 0 = x3 at *
    have hki : (k : Int) < 80 := by omega
    have hk16 : (16 : Int) ≤ k := by omega
    have Hlk := Lib.hid hlk
    clear hB hT hlk hlt h16 hk
    go_wp2_with fail
    have g1 : IntKind.i64.wrap ((k : Int) - 16) = (k : Int) - 16 := IntWalk.i64_in _ (by omega)
    have g2 : ((k : Int) - 16).toNat = k - 16 := by omega
    have g3 : IntKind.i64.wrap ((k : Int) - 14) = (k : Int) - 14 := IntWalk.i64_in _ (by omega)
    have g4 : ((k : Int) - 14).toNat = k - 14 := by omega
    have g5 : IntKind.i64.wrap ((k : Int) - 8) = (k : Int) - 8 := IntWalk.i64_in _ (by omega)
    have g6 : ((k : Int) - 8).toNat = k - 8 := by omega
    have g7 : IntKind.i64.wrap ((k : Int) - 3) = (k : Int) - 3 := IntWalk.i64_in _ (by omega)
    have g8 : ((k : Int) - 3).toNat = k - 3 := by omega
    have q1 : (14 : Int) ≤ k := by omega
    have q2 : (8 : Int) ≤ k := by omega
    have q3 : (3 : Int) ≤ k := by omega
    have q4 : (k : Int) - 16 < 80 := by omega
    have q5 : (k : Int) - 14 < 80 := by omega
    have q6 : (k : Int) - 8 < 80 := by omega
    have q7 : (k : Int) - 3 < 80 := by omega
    go_still_tail 22, (by kernel_rfl)
    still_call (rot32_still (x3 ^^^ x8 ^^^ x14 ^^^ x16) 1 1 _ (by decide) (by decide))
    repeat still_step
    try refine wpStill_nil ?_
    go_wp2_with fail
    go_roundw
    case rel =>
     refine ⟨k + 1, by omega, by go_num, ?_, ?_⟩
     ·rw [hs.out]
      have := (HB.out.set_ k (U32 (rotl32 (x3 ^^^ x8 ^^^ x14 ^^^ x16) 1))).drew
      rw [part_setk _ _ _ _ _ _ Hlk.out (by omega)] at this
      exact this
     ·exact (HT.out.setCell (Nat.le_refl _) _).drew
    case measure => simp [intOf]; omega
  ·obtain rfl : k = 80 := by omega
   have hD0 := HD.out.below hT
   obtain ⟨h0, h1, h2, h3, h4, rest, hhs⟩ : ∃ a b c d e r, hs = a :: b :: c :: d :: e :: r := by
    have h8 := H8.out
    match hs, h8 with
    | [a, b, c, d, e, f, g, h], _ => exact ⟨_, _, _, _, _, _, rfl⟩
   have d0 := (hD0.cell (1 + 0)).trans (hcells_get kind hs wv cnt 0 h0 (by rw [hhs]; rfl))
   have d1 := (hD0.cell (1 + 1)).trans (hcells_get kind hs wv cnt 1 h1 (by rw [hhs]; rfl))
   have d2 := (hD0.cell (1 + 2)).trans (hcells_get kind hs wv cnt 2 h2 (by rw [hhs]; rfl))
   have d3 := (hD0.cell (1 + 3)).trans (hcells_get kind hs wv cnt 3 h3 (by rw [hhs]; rfl))
   have d4 := (hD0.cell (1 + 4)).trans (hcells_get kind hs wv cnt 4 h4 (by rw [hhs]; rfl))
   have hv5 : v5 hs = ⟨h0.toUInt32, h1.toUInt32, h2.toUInt32, h3.toUInt32, h4.toUInt32⟩ := by rw [hhs]; rfl
   rw [part_full _ _ _ _ hlk] at hB
   have hi80 : (Tryz.prog.info? 196).map (·.size) = some ((sched1 p 80).map U32).toArray.size := by rw [List.size_toArray, List.length_map, hlk]; kernel_rfl
   have HT := Lib.hid hT
   have HB := Lib.hid hB
   have HD0 := Lib.hid hD0
   have HV := Lib.hid (And.intro hv5 (And.intro hhs hi80))
   have hq : ¬ ((80 : Int) < 80) := by omega
   clear hT hB hlk hk hge hD0 hv5 hhs hi80
   go_wp2_with fail
   go_quiet (fail)
   clear d0 d1 d2 d3 d4
   replace HB := Lib.hid (HB.out.drewN nq)
   replace HT := Lib.hid (bel_drewN HT.out nq)
   replace HD0 := Lib.hid (HD0.out.drewN nq)
   generalize wr.drewN nq = w1 at *
   clear wr
   go_wp2_with (refine wpList_load_arr rfl 196 (.tmp 4) rfl w.heap.size 196 _ HB.out rfl _ Tryz.underlying196 rfl HV.out.2.2 ?_)
   have hsll : (sched1 p 80).length = 80 := schedTo_len _ _ _
   generalize hsl : sched1 p 80 = sl at *
   have Hsl := Lib.hid hsl
   clear hsl
   obtain ⟨AW, hAW⟩ : ∃ AW, (sl.map U32).toArray = AW := ⟨_, rfl⟩
   have hAx : ∀ k, k < 80 → AW[k]? = some (U32 (sl.getD k 0)) := fun k hk => by rw [← hAW]; simp [List.getD, show k < sl.length by omega]
   have HAx := Lib.hid hAx
   rw [hAW]
   have hv0 : run1 sl (v5 hs) 0 = ⟨h0.toUInt32, h1.toUInt32, h2.toUInt32, h3.toUInt32, h4.toUInt32⟩ := HV.out.1
   have HV0 := Lib.hid hv0
   clear hAW hAx hv0
   go_loop [6, 7, 8, 9, 10, 83] (fun a b c d e i => ∃ k : Nat, k ≤ 80 ∧ i = .int .i64 k ∧ a = U32 (run1 sl (v5 hs) k).a ∧ b = U32 (run1 sl (v5 hs) k).b ∧ c = U32 (run1 sl (v5 hs) k).c ∧ d = U32 (run1 sl (v5 hs) k).d ∧ e = U32 (run1 sl (v5 hs) k).e) (fun _ _ _ _ _ i => 80 - (intOf i).toNat)
   case atStart => exact ⟨0, by omega, rfl, by rw [HV0.out], by rw [HV0.out], by rw [HV0.out], by rw [HV0.out], by rw [HV0.out]⟩
   case round =>
    obtain ⟨k, hk, rfl, rfl, rfl, rfl, rfl, rfl⟩ := hrel
    rcases Nat.lt_or_ge k 80 with hlt | hge
    ·--ROUND
     have hix := fun w => index_arr (t := 196) (q := .i64) Tryz.underlying196 Tryz.underlying115 (by kernel_rfl) hlt (HAx.out k hlt) w
     have hsc := Lib.hid (show run1 sl (v5 hs) (k + 1) = step1 k (run1 sl (v5 hs) k) (sl.getD k 0) from rfl)
     generalize sl.getD k 0 = x at *
     generalize run1 sl (v5 hs) k = V at *
     obtain ⟨va, vb, vc, vd, ve⟩ := V
     have hki : (k : Int) < 80 := by omega
     have hk0 : (0 : Int) ≤ k := by omega
     have H4 : k / 20 = 0 ∨ k / 20 = 1 ∨ k / 20 = 2 ∨ k / 20 = 3 := by omega
     clear hlt hk
     rcases H4 with h20 | h20 | h20 | h20
     all_goals
      have e0 : ((k : Int) / 20 == 0) = (k / 20 == 0) := by rw [Bool.eq_iff_iff]; simp; omega
      have e1 : ((k : Int) / 20 == 1) = (k / 20 == 1) := by rw [Bool.eq_iff_iff]; simp; omega
      have e2 : ((k : Int) / 20 == 2) = (k / 20 == 2) := by rw [Bool.eq_iff_iff]; simp; omega
      rw [h20] at e0 e1 e2
      simp only [Nat.reduceBEq] at e0 e1 e2
      have H20 := Lib.hid h20
      clear h20
      go_wp2_with fail
      refine (rot32_any _ _ 5 _ (by decide) (by decide)).mono ?_
      rintro e w' ⟨rfl, rfl⟩
      go_wp2_with fail
      refine (rot32_any _ _ 30 _ (by decide) (by decide)).mono ?_
      rintro e w' ⟨rfl, rfl⟩
      go_wp2_with fail
      go_round
      case rel =>
       refine ⟨k + 1, by omega, by go_num, ?_, ?_, ?_, ?_, ?_⟩ <;> rw [hsc.out] <;> simp only [step1, f1, g1, H20.out] <;> rfl
      case measure => simp [intOf]; omega
    ·--AFTER
     obtain rfl : k = 80 := by omega
     have hq : ¬ ((80 : Int) < 80) := by omega
     clear hk hge HAx HV0
     have hnl8 : (take1 hs p).length = 8 := take1_len hs p H8.out
     have hout : out1 hs p = (run1 sl (v5 hs) 80).list := by unfold out1; rw [Hsl.out]
     have hget : ∀ k x, k < 5 → hs[k]? = some x → ∃ y, (run1 sl (v5 hs) 80).list[k]? = some y ∧ (take1 hs p)[k]? = some (x.toUInt32 + y).toUInt64 := by
      intro k x hk hx
      obtain ⟨y, hy⟩ : ∃ y, (run1 sl (v5 hs) 80).list[k]? = some y := ⟨_, List.getElem?_eq_getElem (by rw [V5.list_len]; exact hk)⟩
      exact ⟨y, hy, take1_get hs p k x y H8.out hk hx (by rw [hout]; exact hy)⟩
     have h5 : ∀ k, 5 ≤ k → (take1 hs p)[k]? = hs[k]? := fun k hk => take1_ge hs p k H8.out hk
     clear hout
     generalize run1 sl (v5 hs) 80 = V at *
     obtain ⟨va, vb, vc, vd, ve⟩ := V
     have HG := Lib.hid (And.intro hnl8 (And.intro hget h5))
     clear hnl8 hget h5
     go_wp2_with fail
     have hbn : Blk (w1.alloc (.cells #[U32 va, U32 vb, U32 vc, U32 vd, U32 ve] 115)) w1.heap.size 115 #[U32 va, U32 vb, U32 vc, U32 vd, U32 ve] := Blk.new w1 _ _
     have hdl : d < w1.heap.size := HD0.out.lt
     have hDn := HD0.out.alloc (.cells #[U32 va, U32 vb, U32 vc, U32 vd, U32 ve] 115)
     have hTn := Turn.of_below [d] (HT.out.trans (((Below.refl w1.heap.size w1).alloc (Nat.le_refl _) (.cells #[U32 va, U32 vb, U32 vc, U32 vd, U32 ve] 115)).mono HT.out.size))
     revert hbn hDn hTn
     generalize w1.alloc (.cells #[U32 va, U32 vb, U32 vc, U32 vd, U32 ve] 115) = w2
     generalize w1.heap.size = gn at *
     intro hbn hDn hTn
     have hne : gn ≠ d := by omega
     have Hne := Lib.hid hne
     clear HB HT HD0 hne hdl
     go_loopw [142] (fun i wr => ∃ k : Nat, k ≤ 5 ∧ i = .int .i64 k ∧ Blk wr gn 115 #[U32 va, U32 vb, U32 vc, U32 vd, U32 ve] ∧ Blk wr d 168 (hcells kind (mixTo (take1 hs p) hs k) wv cnt) ∧ Turn [d] w wr) (fun i _ => 5 - (intOf i).toNat)
     case atStart => exact ⟨0, by omega, rfl, hbn, by simpa [mixTo] using hDn, hTn⟩
     case round =>
      obtain ⟨k, hk, rfl, hB, hD, hT⟩ := hrel
      clear hbn hDn hTn
      rcases Nat.lt_or_ge k 5 with hlt | hge
      ·obtain ⟨x, hx⟩ : ∃ x, hs[k]? = some x := ⟨_, List.getElem?_eq_getElem (by rw [H8.out]; omega)⟩
       obtain ⟨y, hy, hmx⟩ := HG.out.2.1 k x hlt hx
       have hm : (mixTo (take1 hs p) hs k)[k]? = some x := (mixTo_get _ _ _ (by rw [HG.out.1]; omega)).trans hx
       have cy : wr.cell? ⟨gn, k, none⟩ = some (U32 y) := by
        rw [hB.cell, show (#[U32 va, U32 vb, U32 vc, U32 vd, U32 ve] : Array Value) = (List.map U32 (V5.list ⟨va, vb, vc, vd, ve⟩)).toArray from rfl, List.getElem?_toArray, List.getElem?_map, hy]; rfl
       have cx := (hD.cell (1 + k)).trans (hcells_get kind _ wv cnt k x hm)
       have fx := hD.frozen (1 + k)
       have hki : (k : Int) < 5 := by omega
       have hk0 : (0 : Int) ≤ k := by omega
       have hk8 : (k : Int) < 8 := by omega
       have HM := Lib.hid (And.intro hmx hx)
       have HB := Lib.hid hB
       have HD := Lib.hid hD
       have HT := Lib.hid hT
       clear hB hT hD hlt hk hx hy hm hmx
       go_wp2_with fail
       go_still_tail 15, (by kernel_rfl)
       go_wp2_with fail
       obtain ⟨hmx, hx⟩ := HM.out
       refine ⟨⟨k + 1, by omega, by go_num, (HB.out.far (p := ⟨d, 1 + k, none⟩) Hne.out _).drew, ?_, (HT.out.setCell (.inl (by simp)) _).drew⟩, by simp [intOf]; omega⟩
       have hz : (x % 4294967296 + y.toUInt64) % 4294967296 = (x.toUInt32 + y).toUInt64 := by simp
       rw [hz]
       have := (HD.out.set_ (1 + k) (U64 (x.toUInt32 + y).toUInt64)).drew
       rw [hcells_set _ _ _ _ _ _ (by rw [mixTo_len _ _ _ (by rw [HG.out.1]; omega) (by rw [HG.out.1, H8.out]; omega), H8.out]; omega), mixTo_set _ _ _ _ hmx (by rw [H8.out]; omega)] at this
       exact this
      ·obtain rfl : k = 5 := by omega
       have hq : ¬ ((5 : Int) < 5) := by omega
       have HD := Lib.hid hD
       have HT := Lib.hid hT
       clear hB hT hD
       go_wp2_with fail
       go_end0
       refine ⟨rfl, ?_, HT.out⟩
       have := HD.out
       have e : mixTo (take1 hs p) hs 5 = take1 hs p := mixTo_done _ _ _ (by rw [HG.out.1]; omega) HG.out.2.2
       rw [e] at this
       exact this
theorem blk8L {w : World} {g : Nat} {t : TypeId} {a b c d e f h i : UInt64} (H : Blk w g t ((⟨a, b, c, d, e, f, h, i⟩ : V8 UInt64).list.map U64).toArray) :
  w.cell? ⟨g, 0, none⟩ = some (U64 a) ∧ w.cell? ⟨g, 1, none⟩ = some (U64 b) ∧ w.cell? ⟨g, 2, none⟩ = some (U64 c) ∧ w.cell? ⟨g, 3, none⟩ = some (U64 d) ∧ w.cell? ⟨g, 4, none⟩ = some (U64 e) ∧ w.cell? ⟨g, 5, none⟩ = some (U64 f) ∧ w.cell? ⟨g, 6, none⟩ = some (U64 h) ∧ w.cell? ⟨g, 7, none⟩ = some (U64 i) :=
 ⟨H.cell 0, H.cell 1, H.cell 2, H.cell 3, H.cell 4, H.cell 5, H.cell 6, H.cell 7⟩
set_option maxRecDepth 100000 in
set_option maxHeartbeats 2000000 in
theorem sha512_any (d : Nat) (kind : Int) (hs : List UInt64) (wv : Value) (cnt : UInt64) (b off c : Nat) (p : List UInt8) (w : World) (h : Blk w d 168 (hcells kind hs wv cnt)) (h8 : hs.length = 8)
  (hp : At w b off p) (hpl : p.length = 128) (hc : 128 ≤ c) (hcm : c ≤ maxLen) (hK : KAt w) (hd0 : d ≠ 1) :
  Calls Tryz.prog 156 #[.pointer (some ⟨d, 0, none⟩), .slice (some ⟨b, off, none⟩) 128 c] w fun e w' => e = .returned (.tuple #[]) ∧ Blk w' d 168 (hcells kind (take512 hs p) wv cnt) ∧ Turn [d] w w' := by
 have HK := Lib.hid hK
 have Hd0 := Lib.hid hd0
 clear hK hd0
 unfold maxLen at hcm
 have HP := Lib.hid hp
 have HD := Lib.hid h
 have Hpl := Lib.hid hpl
 have H8 := Lib.hid h8
 clear hp h hpl h8
 have hal0 : ∀ w : World, (Instr.alloc 201 true (.tuple #[])).run Tryz.prog w = .ok (.pointer (some ⟨w.heap.size, 0, none⟩)) (w.alloc (.cells (part U64 (.int .u64 0) [] 80) 201)) := fun _ => by kernel_rfl
 have HAL := Lib.hid hal0
 clear hal0
 go_enter Tryz.func156, Tryz.ntmps156
 go_wp2_with (refine wpList_alloc_at rfl 201 rfl _ (HAL.out _) ?_)
 have hb0 : Blk (w.alloc (.cells (part U64 (.int .u64 0) [] 80) 201)) w.heap.size 201 (part U64 (.int .u64 0) [] 80) := Blk.new w _ _
 have hT0 : Below w.heap.size w (w.alloc (.cells (part U64 (.int .u64 0) [] 80) 201)) := (Below.refl _ _).alloc (Nat.le_refl _) _
 clear HAL
 change Code.wp _ _ _ _ (w.alloc (.cells (part U64 (.int .u64 0) [] 80) 201))
 generalize hw0 : w.alloc (.cells (part U64 (.int .u64 0) [] 80) 201) = w0 at *
 clear hw0
 go_loopw [20] (fun i wr => ∃ k : Nat, k ≤ 80 ∧ i = .int .i64 k ∧ Blk wr w.heap.size 201 (part U64 (.int .u64 0) (sched512 p k) 80) ∧ Below w.heap.size w wr) (fun i _ => 80 - (intOf i).toNat)
 case atStart => exact ⟨0, by omega, rfl, hb0, hT0⟩
 case round =>
  obtain ⟨k, hk, rfl, hB, hT⟩ := hrel
  clear hb0 hT0
  have hlk : (sched512 p k).length = k := schedTo_len _ _ _
  rcases Nat.lt_or_ge k 80 with hlt | hge
  ·rcases Nat.lt_or_ge k 16 with h16 | h16
   ·have hs := Lib.hid (show sched512 p (k + 1) = sched512 p k ++ [word64 p (8 * k)] by show _ ++ [_] = _; rw [if_pos (by omega)]; rfl)
    have ck := (hB.cell k).trans (part_next U64 (.int .u64 0) (sched512 p k) 80 k hlk hlt)
    have fk := hB.frozen k
    have hat := ((HP.out.keep hT.size (hT.block b HP.out.1)).drop (8 * k))
    have hG := Lib.hid (get64_any b (off + 8 * k) (128 - 8 * k) (c - 8 * k) (p.drop (8 * k)) wr hat (by rw [List.length_drop, Hpl.out]) (by omega))
    have HB := Lib.hid hB
    have HT := Lib.hid hT
    have Hlk := Lib.hid hlk
    have hki : (k : Int) < 16 := by omega
    have hw0 : word64 (p.drop (8 * k)) 0 = word64 p (8 * k) := by simp [word64, List.getD]
    rw [← hw0] at hs
    clear hB hT hlk hlt h16 hk hat hw0
    go_wp2_with fail
    refine hG.out.mono ?_
    rintro e w' ⟨rfl, nq, rfl⟩
    have ck : (wr.drewN nq).cell? ⟨w.heap.size, k, none⟩ = _ := ck
    have fk : (wr.drewN nq).frozen? ⟨w.heap.size, k, none⟩ = false := fk
    go_wp2_with fail
    go_roundw
    case rel =>
     refine ⟨k + 1, by omega, by go_num, ?_, ?_⟩
     ·rw [hs.out]
      have := (HB.out.drewN nq).set_ k (U64 (word64 (p.drop (8 * k)) 0))
      rw [part_setk _ _ _ _ _ _ Hlk.out (by omega)] at this
      exact this
     ·exact (bel_drewN HT.out nq).setCell (Nat.le_refl _) _
    case measure => simp [intOf]; omega
   ·have hs := Lib.hid (show sched512 p (k + 1) = sched512 p k ++ [next512 (sched512 p k) k] by show _ ++ [_] = _; rw [if_neg (by omega)]; rfl)
    have c16 := (hB.cell (k - 16)).trans (part_getD _ _ _ _ _ 0 (by omega))
    have c15 := (hB.cell (k - 15)).trans (part_getD _ _ _ _ _ 0 (by omega))
    have c7 := (hB.cell (k - 7)).trans (part_getD _ _ _ _ _ 0 (by omega))
    have c2 := (hB.cell (k - 2)).trans (part_getD _ _ _ _ _ 0 (by omega))
    have ck := (hB.cell k).trans (part_next U64 (.int .u64 0) (sched512 p k) 80 k hlk hlt)
    have fk := hB.frozen k
    have HB := Lib.hid hB
    have HT := Lib.hid hT
    unfold next512 at hs
    generalize (sched512 p k).getD (k - 16) 0 = x16 at *
    generalize (sched512 p k).getD (k - 15) 0 = x15 at *
    generalize (sched512 p k).getD (k - 7) 0 = x7 at *
    generalize (sched512 p k).getD (k - 2) 0 = x2 at *
    have hki : (k : Int) < 80 := by omega
    have hk16 : (16 : Int) ≤ k := by omega
    have Hlk := Lib.hid hlk
    clear hB hT hlk hlt h16 hk
    go_wp2_with fail
    go_quiet (fail)
    replace c16 : (wr.drewN nq).cell? ⟨w.heap.size, k - 16, none⟩ = _ := c16
    replace c7 : (wr.drewN nq).cell? ⟨w.heap.size, k - 7, none⟩ = _ := c7
    replace ck : (wr.drewN nq).cell? ⟨w.heap.size, k, none⟩ = _ := ck
    replace fk : (wr.drewN nq).frozen? ⟨w.heap.size, k, none⟩ = false := fk
    replace HB : Hid (Blk (wr.drewN nq) _ _ _) := HB
    replace HT : Hid (Below _ _ (wr.drewN nq)) := Lib.hid (bel_drewN HT.out nq)
    clear c15 c2
    generalize wr.drewN nq = w1 at *
    clear wr
    go_wp2_with fail
    refine (rot64_any _ _ 63 _ (by decide) (by decide)).mono ?_
    rintro e w' ⟨rfl, rfl⟩
    go_wp2_with fail
    refine (rot64_any _ _ 56 _ (by decide) (by decide)).mono ?_
    rintro e w' ⟨rfl, rfl⟩
    go_wp2_with fail
    refine (rot64_any _ _ 45 _ (by decide) (by decide)).mono ?_
    rintro e w' ⟨rfl, rfl⟩
    go_wp2_with fail
    refine (rot64_any _ _ 3 _ (by decide) (by decide)).mono ?_
    rintro e w' ⟨rfl, rfl⟩
    go_wp2_with fail
    have g1 : IntKind.i64.wrap ((k : Int) - 16) = (k : Int) - 16 := IntWalk.i64_in _ (by omega)
    have g2 : ((k : Int) - 16).toNat = k - 16 := by omega
    have g3 : IntKind.i64.wrap ((k : Int) - 7) = (k : Int) - 7 := IntWalk.i64_in _ (by omega)
    have g4 : ((k : Int) - 7).toNat = k - 7 := by omega
    have g5 : (7 : Int) ≤ k := by omega
    have g6 : (k : Int) - 16 < 80 := by omega
    have g7 : (k : Int) - 7 < 80 := by omega
    go_still_tail 15, (by kernel_rfl)
    go_wp2_with fail
    go_roundw
    case rel =>
     refine ⟨k + 1, by omega, by go_num, ?_, ?_⟩
     ·rw [hs.out]
      have := (HB.out.set_ k (U64 (x16 + (rotl64 x15 63 ^^^ rotl64 x15 56 ^^^ x15 >>> 7) + x7 + (rotl64 x2 45 ^^^ rotl64 x2 3 ^^^ x2 >>> 6)))).drew
      rw [part_setk _ _ _ _ _ _ Hlk.out (by omega)] at this
      exact this
     ·exact (HT.out.setCell (Nat.le_refl _) _).drew
    case measure => simp [intOf]; omega
  ·obtain rfl : k = 80 := by omega
   have HT := Lib.hid hT
   have Hlk := Lib.hid hlk
   rw [part_full _ _ _ _ hlk] at hB
   have HB := Lib.hid hB
   clear hT hlk hB hk hge
   have hgv := HB.out.lt
   have hD0 := HD.out.below HT.out
   have hDm : wr.rangeAt d 1 (hs.map U64) := fun j v hv => by
    rw [List.getElem?_map] at hv
    obtain ⟨x, hx, rfl⟩ := Option.map_eq_some_iff.1 hv
    exact (hD0.cell (1 + j)).trans (hcells_get kind hs wv cnt j x hx)
   have hi8 : (Tryz.prog.info? 165).map (·.size) = some (hs.map U64).length := by rw [List.length_map, H8.out]; kernel_rfl
   have hnb : Blk (wr.alloc (.cells (List.replicate 8 (.int .u64 0)).toArray 165)) wr.heap.size 165 (List.replicate 8 (.int .u64 0)).toArray := Blk.new wr _ _
   have hal : (hs.map U64).all (·.oneCell') = true := by rw [List.all_map]; exact List.all_eq_true.2 fun _ _ => rfl
   have hsll : (sched512 p 80).length = 80 := schedTo_len _ _ _
   have hi80 : (Tryz.prog.info? 201).map (·.size) = some ((sched512 p 80).map U64).toArray.size := by rw [List.size_toArray, List.length_map, hsll]; kernel_rfl
   have HR0 := Lib.hid (And.intro hDm (And.intro hi8 (And.intro hnb (And.intro hal hi80))))
   clear hDm hi8 hnb hal hi80
   go_wp2_with (first
    | (refine wpList_load_mid rfl 165 _ rfl d 1 rfl (hs.map U64) _ HR0.out.1 Tryz.underlying165 rfl HR0.out.2.1 ?_)
    | (refine wpList_store_arr rfl 165 (.tmp 10) _ rfl wr.heap.size 165 _ (hs.map U64) HR0.out.2.2.1 rfl rfl HR0.out.2.1 (by rw [List.length_map, H8.out]; rfl) HR0.out.2.2.2.1 ?_; intro w3 hB3 hT3; have hS3 := Lib.hid ((HB.out.alloc (.cells (List.replicate 8 (.int .u64 0)).toArray 165)).turn hT3 (by simp; omega)))
    | (refine wpList_load_arr rfl 201 (.tmp 4) rfl w.heap.size 201 _ hS3.out rfl _ Tryz.underlying201 rfl HR0.out.2.2.2.2 ?_))
   have hTa := Turn.of_below [] ((Below.refl _ wr).alloc (Nat.le_refl _) (.cells (List.replicate 8 (.int .u64 0)).toArray 165))
   have hB34 : Below wr.heap.size wr w3 := below_turn hTa.below hT3 (by simp) (by simp)
   have hDr := Lib.hid (hD0.below hB34)
   have hKr := Lib.hid ((HK.out.below HT.out).below hB34)
   have HTr := Lib.hid (HT.out.trans (hB34.mono HT.out.size))
   have h0g : 1 < wr.heap.size := Nat.lt_trans HK.out.1 hgv
   have hgvw : w.heap.size < wr.heap.size := hgv
   have hdg : d < wr.heap.size := Nat.lt_of_lt_of_le HD.out.lt (Nat.le_of_lt hgv)
   clear HR0 hTa hB34 hT3 hS3 hD0 HT HB hgv
   generalize wr.heap.size = gv at *
   generalize hsl : sched512 p 80 = sl at *
   have Hsl := Lib.hid hsl
   clear hsl
   obtain ⟨AW, hAW⟩ : ∃ AW, (sl.map U64).toArray = AW := ⟨_, rfl⟩
   have hAx : ∀ k, k < 80 → AW[k]? = some (U64 (sl.getD k 0)) := fun k hk => by rw [← hAW]; simp [List.getD, show k < sl.length by omega]
   have HAx := Lib.hid hAx
   rw [hAW]
   clear hAW hAx
   have hvo : hs.map U64 = (run512 kTab sl (V8.of hs) 0).list.map U64 := by
    have h8 := H8.out
    match hs, h8 with
    | [_, _, _, _, _, _, _, _], _ => rfl
   rw [hvo] at hB3
   clear hvo
   generalize hv0 : V8.of hs = v0 at *
   have Hv0 := Lib.hid hv0
   clear hv0
   go_loopw [77] (fun i wr => ∃ k : Nat, k ≤ 80 ∧ i = .int .i64 k ∧ Blk wr gv 165 ((run512 kTab sl v0 k).list.map U64).toArray ∧ Below gv w3 wr) (fun i _ => 80 - (intOf i).toNat)
   case atStart => exact ⟨0, by omega, rfl, hB3, Below.refl _ _⟩
   case round =>
    obtain ⟨k, hk, rfl, hB, hT⟩ := hrel
    clear hB3
    rcases Nat.lt_or_ge k 80 with hlt | hge
    ·--ROUND3
     have HKk := Lib.hid ((hKr.out.belowB hT h0g).at_ (k := k) (by omega))
     have hix := fun w => index_arr (t := 201) (q := .i64) Tryz.underlying201 Tryz.underlying131 (by kernel_rfl) hlt (HAx.out k hlt) w
     have hsc := Lib.hid (show run512 kTab sl v0 (k + 1) = step512 (run512 kTab sl v0 k) (kTab.getD k 0) (sl.getD k 0) from rfl)
     generalize kTab.getD k 0 = kk at *
     generalize sl.getD k 0 = x at *
     generalize run512 kTab sl v0 k = V at *
     obtain ⟨va, vb, vc, vd, ve, vf, vg, vh⟩ := V
     obtain ⟨c0, c1, c2, c3, c4, c5, c6, c7⟩ := blk8L hB
     have fz := hB.frozen
     have ck := HKk.out
     have hki : (k : Int) < 80 := by omega
     have hk80 : (k : Int) < 80 := by omega
     have hk0 : (0 : Int) ≤ k := by omega
     have HB := Lib.hid hB
     have HT := Lib.hid hT
     clear hB hT hlt hk fz
     go_wp2_with fail
     go_quiet (fail)
     replace HB := Lib.hid (HB.out.drewN nq)
     replace HT := Lib.hid (bel_drewN HT.out nq)
     replace HKk : Hid ((wr.drewN nq).cell? ⟨1, k, none⟩ = some (U64 kk)) := HKk
     clear c0 c1 c2 c3 c4 c5 c6 c7 ck
     generalize wr.drewN nq = w4 at *
     clear wr
     obtain ⟨c0, c1, c2, c3, c4, c5, c6, c7⟩ := blk8L HB.out
     have ck := HKk.out
     go_wp2_with fail
     refine (rot64_any _ _ 50 _ (by decide) (by decide)).mono ?_
     rintro e w' ⟨rfl, rfl⟩
     go_wp2_with fail
     refine (rot64_any _ _ 46 _ (by decide) (by decide)).mono ?_
     rintro e w' ⟨rfl, rfl⟩
     go_wp2_with fail
     refine (rot64_any _ _ 23 _ (by decide) (by decide)).mono ?_
     rintro e w' ⟨rfl, rfl⟩
     go_wp2_with fail
     go_quiet (fail)
     replace HB := Lib.hid (HB.out.drewN nq)
     replace HT := Lib.hid (bel_drewN HT.out nq)
     replace HKk : Hid ((w4.drewN nq).cell? ⟨1, k, none⟩ = some (U64 kk)) := HKk
     clear c0 c1 c2 c3 c4 c5 c6 c7 ck
     generalize w4.drewN nq = w5 at *
     clear w4
     obtain ⟨c0, c1, c2, c3, c4, c5, c6, c7⟩ := blk8L HB.out
     have ck := HKk.out
     go_wp2_with fail
     refine (rot64_any _ _ 36 _ (by decide) (by decide)).mono ?_
     rintro e w' ⟨rfl, rfl⟩
     go_wp2_with fail
     refine (rot64_any _ _ 30 _ (by decide) (by decide)).mono ?_
     rintro e w' ⟨rfl, rfl⟩
     go_wp2_with fail
     refine (rot64_any _ _ 25 _ (by decide) (by decide)).mono ?_
     rintro e w' ⟨rfl, rfl⟩
     go_wp2_with (first | (refine wpList_build_at rfl 165 _ rfl #[U64 (t512 ⟨va, vb, vc, vd, ve, vf, vg, vh⟩ kk x + u512 ⟨va, vb, vc, vd, ve, vf, vg, vh⟩), U64 va, U64 vb, U64 vc, U64 (vd + t512 ⟨va, vb, vc, vd, ve, vf, vg, vh⟩ kk x), U64 ve, U64 vf, U64 vg] (by rfl) ?_) | (refine wpList_store_arr rfl 165 (.tmp 10) _ rfl gv 165 _ [U64 (t512 ⟨va, vb, vc, vd, ve, vf, vg, vh⟩ kk x + u512 ⟨va, vb, vc, vd, ve, vf, vg, vh⟩), U64 va, U64 vb, U64 vc, U64 (vd + t512 ⟨va, vb, vc, vd, ve, vf, vg, vh⟩ kk x), U64 ve, U64 vf, U64 vg] HB.out rfl rfl (by kernel_rfl) (by rfl) (by rfl) ?_; intro w6 hB6 hT6))
     refine ⟨⟨k + 1, by omega, by go_num, ?_, ?_⟩, by simp [intOf]; omega⟩
     ·rw [hsc.out]; exact hB6
     ·exact below_turn HT.out hT6 (by simp) (Nat.le_of_lt HB.out.lt)
    ·--AFTER3
     obtain rfl : k = 80 := by omega
     clear hk hge HAx
     have hq : ¬ ((80 : Int) < 80) := by omega
     have HB := Lib.hid hB
     have HT := Lib.hid hT
     clear hB hT
     go_wp2_with (refine wpList_load_arr rfl 165 (.tmp 10) rfl gv 165 _ HB.out rfl _ Tryz.underlying165 rfl (by kernel_rfl) ?_)
     have hnew : ∀ k x, (run512 kTab sl v0 80).list[k]? = some x → ((run512 kTab sl v0 80).list.map U64).toArray[k]? = some (U64 x) := fun k x h => by rw [List.getElem?_toArray, List.getElem?_map, h]; rfl
     have hout : take512 hs p = List.zipWith (fun h x => h + x) hs (run512 kTab sl v0 80).list := by unfold take512 out512; rw [Hsl.out, Hv0.out]
     have hol : (run512 kTab sl v0 80).list.length = 8 := rfl
     have hDw := Lib.hid (hDr.out.keep (HT.out.block d hdg))
     have hTw := Lib.hid (Turn.of_below [d] (HTr.out.trans (HT.out.mono (Nat.le_of_lt hgvw))))
     generalize (run512 kTab sl v0 80).list = ol at *
     generalize (ol.map U64).toArray = OA at *
     have Hnew := Lib.hid hnew
     have Hout := Lib.hid hout
     have Hol := Lib.hid hol
     clear hnew hout hol HT HB
     generalize hwz : wr = wz at *
     clear hwz
     go_loopw [159] (fun i wr => ∃ k : Nat, k ≤ 8 ∧ i = .int .i64 k ∧ Blk wr d 168 (hcells kind (mixTo (take512 hs p) hs k) wv cnt) ∧ Turn [d] w wr) (fun i _ => 8 - (intOf i).toNat)
     case atStart => exact ⟨0, by omega, rfl, by simpa [mixTo] using hDw.out, hTw.out⟩
     case round =>
      obtain ⟨k, hk, rfl, hB, hT⟩ := hrel
      have hnl : (take512 hs p).length = 8 := by rw [Hout.out]; simp [H8.out, Hol.out]
      rcases Nat.lt_or_ge k 8 with hlt | hge
      ·obtain ⟨x, hx⟩ : ∃ x, hs[k]? = some x := ⟨_, List.getElem?_eq_getElem (by rw [H8.out]; exact hlt)⟩
       obtain ⟨y, hy⟩ : ∃ y, ol[k]? = some y := ⟨_, List.getElem?_eq_getElem (by rw [Hol.out]; exact hlt)⟩
       have hm : (mixTo (take512 hs p) hs k)[k]? = some x := (mixTo_get _ _ _ (by omega)).trans hx
       have hmx : (take512 hs p)[k]? = some (x + y) := by rw [Hout.out, List.getElem?_zipWith, hx, hy]
       have cx := (hB.cell (1 + k)).trans (hcells_get kind _ wv cnt k x hm)
       have fx := hB.frozen (1 + k)
       have hix := fun w => index_arr (t := 165) (q := .i64) Tryz.underlying165 Tryz.underlying131 (by kernel_rfl) hlt (Hnew.out k y hy) w
       have hki : (k : Int) < 8 := by omega
       have hk0 : (0 : Int) ≤ k := by omega
       have HM := Lib.hid (And.intro hmx (And.intro hnl hx))
       have HB := Lib.hid hB
       have HT := Lib.hid hT
       clear hB hT hlt hk hx hy hm hmx hnl
       go_wp2_with fail
       go_still_tail 11, (by kernel_rfl)
       go_wp2_with fail
       obtain ⟨hmx, hnl, hx⟩ := HM.out
       refine ⟨⟨k + 1, by omega, by go_num, ?_, (HT.out.setCell (.inl (by simp)) _).drew⟩, by simp [intOf]; omega⟩
       have := (HB.out.set_ (1 + k) (U64 (x + y))).drew
       rw [hcells_set _ _ _ _ _ _ (by rw [mixTo_len _ _ _ (by omega) (by rw [hnl, H8.out]; omega), H8.out]; omega), mixTo_set _ _ _ _ hmx (by rw [H8.out]; omega)] at this
       exact this
      ·obtain rfl : k = 8 := by omega
       have hq : ¬ ((8 : Int) < 8) := by omega
       have HB := Lib.hid hB
       have HT := Lib.hid hT
       have HN := Lib.hid hnl
       clear hB hT hnl
       go_wp2_with fail
       go_end0
       refine ⟨rfl, ?_, HT.out⟩
       have := HB.out
       unfold mixTo at this
       rw [List.drop_eq_nil_of_le (by rw [H8.out]; omega), List.append_nil, List.take_of_length_le (by rw [HN.out]; omega)] at this
       exact this
end Go.Proofs.YtgjnmpjimhbfgaaGreatDoor
