/-
  Contract of (*hashes.Hash).sha256: a block is taken in.
-/
import Derived.Test.YtddemlajfbagdaaDoorSha
import Derived.Deep.RegionHeld3
import Derived.StillTailTactics
import Derived.Deep.MidRow
namespace Go.Proofs.YtddemlajfbagdaaDoor
open Go.RowKit

theorem bel_drewN {B : Nat} {w w' : World} (h : Below B w w') (n : Nat) : Below B w (w'.drewN n) := ⟨h.os, h.tape, h.output, h.size, h.block⟩
/-- The cells of an array of which the first words are known. -/
def part {α : Type} (U : α → Value) (z : Value) (l : List α) (n : Nat) : Array Value := (l.map U ++ List.replicate (n - l.length) z).toArray
theorem part_get {α : Type} (U : α → Value) (z : Value) (l : List α) (n k : Nat) (x : α) (h : l[k]? = some x) : (part U z l n)[k]? = some (U x) := by
  have hk := (List.getElem?_eq_some_iff.1 h).1
  simp only [part, List.getElem?_toArray]
  rw [List.getElem?_append_left (by simpa using hk), List.getElem?_map, h]; rfl
theorem part_set {α : Type} (U : α → Value) (z : Value) (l : List α) (n : Nat) (x : α) (h : l.length < n) : (part U z l n).setIfInBounds l.length (U x) = part U z (l ++ [x]) n := by
  simp only [part, List.setIfInBounds_toArray]
  congr 1
  rw [List.set_append_right _ _ (by simp)]
  have : n - l.length = (n - (l ++ [x]).length) + 1 := by simp; omega
  rw [this, List.replicate_succ]
  simp
theorem part_setk {α : Type} (U : α → Value) (z : Value) (l : List α) (n k : Nat) (x : α) (hk : l.length = k) (h : k < n) : (part U z l n).setIfInBounds k (U x) = part U z (l ++ [x]) n := by
  subst hk; exact part_set U z l n x h
theorem part_full {α : Type} (U : α → Value) (z : Value) (l : List α) (n : Nat) (h : l.length = n) : part U z l n = (l.map U).toArray := by simp [part, h]
theorem part_next {α : Type} (U : α → Value) (z : Value) (l : List α) (n k : Nat) (hk : l.length = k) (h : k < n) : (part U z l n)[k]? = some z := by
  simp only [part, List.getElem?_toArray]
  rw [List.getElem?_append_right (by simp [hk]), List.getElem?_replicate, if_pos (by simp only [List.length_map]; omega)]
theorem part_getD {α : Type} (U : α → Value) (z : Value) (l : List α) (n k : Nat) (x : α) (h : k < l.length) : (part U z l n)[k]? = some (U (l.getD k x)) :=
  part_get U z l n k _ (by simp [List.getD, h])

/-- The cells of a hash's state. -/
def hcells (kind : Int) (hs : List UInt64) (wv : Value) (n : UInt64) : Array Value := (.int .i64 kind :: (hs.map U64 ++ [wv, U64 n])).toArray

theorem hcells_get (kind : Int) (hs : List UInt64) (wv : Value) (n : UInt64) (i : Nat) (x : UInt64) (h : hs[i]? = some x) : (hcells kind hs wv n)[1 + i]? = some (U64 x) := by
  have hi := (List.getElem?_eq_some_iff.1 h).1
  unfold hcells
  rw [List.getElem?_toArray, Nat.add_comm 1 i, List.getElem?_cons_succ, List.getElem?_append_left (by simpa using hi), List.getElem?_map, h]; rfl
theorem hcells_set (kind : Int) (hs : List UInt64) (wv : Value) (n : UInt64) (i : Nat) (x : UInt64) (h : i < hs.length) : (hcells kind hs wv n).setIfInBounds (1 + i) (U64 x) = hcells kind (hs.set i x) wv n := by
  unfold hcells
  rw [List.setIfInBounds_toArray, Nat.add_comm 1 i, List.set_cons_succ, List.set_append_left _ _ (by simpa using h)]
  simp
theorem Blk.range {w : World} {g : Nat} {t : TypeId} {cs : List Value} (h : Blk w g t cs.toArray) : w.rangeAt g 0 cs := fun j v hv => by
  rw [h.cell, List.getElem?_toArray, Nat.zero_add, hv]
theorem blk8 {w : World} {g : Nat} {t : TypeId} {a b c d e f h i : UInt32} (H : Blk w g t ((⟨a, b, c, d, e, f, h, i⟩ : V8 UInt32).list.map U32).toArray) :
    w.cell? ⟨g, 0, none⟩ = some (U32 a) ∧ w.cell? ⟨g, 1, none⟩ = some (U32 b) ∧ w.cell? ⟨g, 2, none⟩ = some (U32 c) ∧ w.cell? ⟨g, 3, none⟩ = some (U32 d) ∧ w.cell? ⟨g, 4, none⟩ = some (U32 e) ∧ w.cell? ⟨g, 5, none⟩ = some (U32 f) ∧ w.cell? ⟨g, 6, none⟩ = some (U32 h) ∧ w.cell? ⟨g, 7, none⟩ = some (U32 i) :=
  ⟨H.cell 0, H.cell 1, H.cell 2, H.cell 3, H.cell 4, H.cell 5, H.cell 6, H.cell 7⟩
/-- The table of constants lies where the program has it. -/
def KAt (w : World) : Prop := 1 < w.heap.size ∧ ∀ i x, kTab[i]? = some x → w.cell? ⟨1, i, none⟩ = some (U64 x)
theorem KAt.belowB {w w' : World} {B : Nat} (h : KAt w) (hb : Below B w w') (h0 : 1 < B) : KAt w' :=
  ⟨Nat.lt_of_lt_of_le h.1 hb.size, fun i x hx => (hb.cell (p := ⟨1, i, none⟩) h0).trans (h.2 i x hx)⟩
theorem KAt.below {w w' : World} (h : KAt w) (hb : Below w.heap.size w w') : KAt w' := h.belowB hb h.1
theorem KAt.turn {w w' : World} {S : List Nat} (h : KAt w) (hb : Turn S w w') (hn : 1 ∉ S) : KAt w' :=
  ⟨Nat.lt_of_lt_of_le h.1 hb.size, fun i x hx => cell_turn (h.2 i x hx) hb hn⟩
theorem KAt.at_ {w : World} (h : KAt w) {k : Nat} (hk : k < 80) : w.cell? ⟨1, k, none⟩ = some (U64 (kTab.getD k 0)) :=
  h.2 k _ (by simp [List.getD, show k < kTab.length from hk])

set_option maxRecDepth 100000 in
set_option maxHeartbeats 2000000 in
theorem sha256_any (d : Nat) (kind : Int) (hs : List UInt64) (wv : Value) (cnt : UInt64) (b off c : Nat) (p : List UInt8) (w : World) (h : Blk w d 94 (hcells kind hs wv cnt)) (h8 : hs.length = 8)
    (hp : At w b off p) (hpl : p.length = 64) (hc : 64 ≤ c) (hcm : c ≤ maxLen) (hK : KAt w) (hd0 : d ≠ 1) :
    Calls Tryd.prog 86 #[.pointer (some ⟨d, 0, none⟩), .slice (some ⟨b, off, none⟩) 64 c] w fun e w' => e = .returned (.tuple #[]) ∧ Blk w' d 94 (hcells kind (take256 hs p) wv cnt) ∧ Turn [d] w w' := by
  have HK := Lib.hid hK
  have Hd0 := Lib.hid hd0
  clear hK hd0
  unfold maxLen at hcm
  have HP := Lib.hid hp
  have HD := Lib.hid h
  have Hpl := Lib.hid hpl
  have H8 := Lib.hid h8
  clear hp h hpl h8
  go_enter Tryd.func86, Tryd.ntmps86
  go_wp2_with fail
  have hb0 : Blk (w.alloc (.cells (part U32 (.int .u32 0) [] 64) 115)) w.heap.size 115 (part U32 (.int .u32 0) [] 64) := Blk.new w _ _
  have hT0 : Below w.heap.size w (w.alloc (.cells (part U32 (.int .u32 0) [] 64) 115)) := (Below.refl _ _).alloc (Nat.le_refl _) _
  change Code.wp _ _ _ _ (w.alloc (.cells (part U32 (.int .u32 0) [] 64) 115))
  generalize hw0 : w.alloc (.cells (part U32 (.int .u32 0) [] 64) 115) = w0 at *
  clear hw0
  go_loopw [21] (fun i wr => ∃ k : Nat, k ≤ 64 ∧ i = .int .i64 k ∧ Blk wr w.heap.size 115 (part U32 (.int .u32 0) (sched256 p k) 64) ∧ Below w.heap.size w wr) (fun i _ => 64 - (intOf i).toNat)
  case atStart => exact ⟨0, by omega, rfl, hb0, hT0⟩
  case round =>
    obtain ⟨k, hk, rfl, hB, hT⟩ := hrel
    clear hb0 hT0
    have hlk : (sched256 p k).length = k := schedTo_len _ _ _
    rcases Nat.lt_or_ge k 64 with hlt | hge
    · rcases Nat.lt_or_ge k 16 with h16 | h16
      · have hs := Lib.hid (show sched256 p (k + 1) = sched256 p k ++ [word32 p (4 * k)] by show _ ++ [_] = _; rw [if_pos (by omega)]; rfl)
        have ck := (hB.cell k).trans (part_next U32 (.int .u32 0) (sched256 p k) 64 k hlk hlt)
        have fk := hB.frozen k
        have hat := ((HP.out.keep hT.size (hT.block b HP.out.1)).drop (4 * k))
        have hG := Lib.hid (get32_any b (off + 4 * k) (64 - 4 * k) (c - 4 * k) (p.drop (4 * k)) wr hat (by rw [List.length_drop, Hpl.out]) (by omega))
        have HB := Lib.hid hB
        have HT := Lib.hid hT
        have Hlk := Lib.hid hlk
        have hki : (k : Int) < 16 := by omega
        have hw0 : word32 (p.drop (4 * k)) 0 = word32 p (4 * k) := by simp [word32, List.getD]
        rw [← hw0] at hs
        clear hB hT hlk hlt h16 hk hat hw0
        go_wp2_with fail
        refine hG.out.mono ?_
        rintro e w' ⟨rfl, nq, rfl⟩
        have ck : (wr.drewN nq).cell? ⟨w.heap.size, k, none⟩ = _ := ck
        have fk : (wr.drewN nq).frozen? ⟨w.heap.size, k, none⟩ = false := fk
        go_wp2_with fail
        go_roundw
        case rel =>
          refine ⟨k + 1, by omega, by go_num, ?_, ?_⟩
          · rw [hs.out]
            have := (HB.out.drewN nq).set_ k (U32 (word32 (p.drop (4 * k)) 0))
            rw [part_setk _ _ _ _ _ _ Hlk.out (by omega)] at this
            exact this
          · exact (bel_drewN HT.out nq).setCell (Nat.le_refl _) _
        case measure => simp [intOf]; omega
      · have hs := Lib.hid (show sched256 p (k + 1) = sched256 p k ++ [next256 (sched256 p k) k] by show _ ++ [_] = _; rw [if_neg (by omega)]; rfl)
        have c16 := (hB.cell (k - 16)).trans (part_getD _ _ _ _ _ 0 (by omega))
        have c15 := (hB.cell (k - 15)).trans (part_getD _ _ _ _ _ 0 (by omega))
        have c7 := (hB.cell (k - 7)).trans (part_getD _ _ _ _ _ 0 (by omega))
        have c2 := (hB.cell (k - 2)).trans (part_getD _ _ _ _ _ 0 (by omega))
        have ck := (hB.cell k).trans (part_next U32 (.int .u32 0) (sched256 p k) 64 k hlk hlt)
        have fk := hB.frozen k
        have HB := Lib.hid hB
        have HT := Lib.hid hT
        unfold next256 at hs
        generalize (sched256 p k).getD (k - 16) 0 = x16 at *
        generalize (sched256 p k).getD (k - 15) 0 = x15 at *
        generalize (sched256 p k).getD (k - 7) 0 = x7 at *
        generalize (sched256 p k).getD (k - 2) 0 = x2 at *
        have hki : (k : Int) < 64 := by omega
        have hk16 : (16 : Int) ≤ k := by omega
        have Hlk := Lib.hid hlk
        clear hB hT hlk hlt h16 hk
        go_wp2_with fail
        go_quiet (fail)
        replace c16 : (wr.drewN nq).cell? ⟨w.heap.size, k - 16, none⟩ = _ := c16
        replace c7 : (wr.drewN nq).cell? ⟨w.heap.size, k - 7, none⟩ = _ := c7
        replace ck : (wr.drewN nq).cell? ⟨w.heap.size, k, none⟩ = _ := ck
        replace fk : (wr.drewN nq).frozen? ⟨w.heap.size, k, none⟩ = false := fk
        replace HB : Hid (Blk (wr.drewN nq) _ _ _) := HB
        replace HT : Hid (Below _ _ (wr.drewN nq)) := Lib.hid (bel_drewN HT.out nq)
        clear c15 c2
        generalize wr.drewN nq = w1 at *
        clear wr
        go_wp2_with fail
        refine (rot32_any _ _ 25 _ (by decide) (by decide)).mono ?_
        rintro e w' ⟨rfl, rfl⟩
        go_wp2_with fail
        refine (rot32_any _ _ 14 _ (by decide) (by decide)).mono ?_
        rintro e w' ⟨rfl, rfl⟩
        go_wp2_with fail
        refine (rot32_any _ _ 15 _ (by decide) (by decide)).mono ?_
        rintro e w' ⟨rfl, rfl⟩
        go_wp2_with fail
        refine (rot32_any _ _ 13 _ (by decide) (by decide)).mono ?_
        rintro e w' ⟨rfl, rfl⟩
        go_wp2_with fail
        have g1 : IntKind.i64.wrap ((k : Int) - 16) = (k : Int) - 16 := IntWalk.i64_in _ (by omega)
        have g2 : ((k : Int) - 16).toNat = k - 16 := by omega
        have g3 : IntKind.i64.wrap ((k : Int) - 7) = (k : Int) - 7 := IntWalk.i64_in _ (by omega)
        have g4 : ((k : Int) - 7).toNat = k - 7 := by omega
        have g5 : (7 : Int) ≤ k := by omega
        have g6 : (k : Int) - 16 < 64 := by omega
        have g7 : (k : Int) - 7 < 64 := by omega
        go_still_tail 15, (by kernel_rfl)
        go_wp2_with fail
        go_roundw
        case rel =>
          refine ⟨k + 1, by omega, by go_num, ?_, ?_⟩
          · rw [hs.out]
            have := (HB.out.set_ k (U32 (x16 + (rotl32 x15 25 ^^^ rotl32 x15 14 ^^^ x15 >>> 3) + x7 + (rotl32 x2 15 ^^^ rotl32 x2 13 ^^^ x2 >>> 10)))).drew
            rw [part_setk _ _ _ _ _ _ Hlk.out (by omega)] at this
            exact this
          · exact (HT.out.setCell (Nat.le_refl _) _).drew
        case measure => simp [intOf]; omega
    · obtain rfl : k = 64 := by omega
      have HT := Lib.hid hT
      have Hlk := Lib.hid hlk
      rw [part_full _ _ _ _ hlk] at hB
      have HB := Lib.hid hB
      clear hT hlk hB hk hge
      go_wp2_with fail
      have hb0 : Blk (wr.alloc (.cells (part U32 (.int .u32 0) [] 8) 116)) wr.heap.size 116 (part U32 (.int .u32 0) [] 8) := Blk.new wr _ _
      have hT0 : Below wr.heap.size wr (wr.alloc (.cells (part U32 (.int .u32 0) [] 8) 116)) := (Below.refl _ _).alloc (Nat.le_refl _) _
      change Code.wp _ _ _ _ (wr.alloc (.cells (part U32 (.int .u32 0) [] 8) 116))
      generalize hw1 : wr.alloc (.cells (part U32 (.int .u32 0) [] 8) 116) = w1 at *
      clear hw1
      have hS := HB.out.below hT0
      have hgv := HB.out.lt
      have HT2 := Lib.hid (HT.out.trans (hT0.mono HT.out.size))
      have hlv : wr.heap.size < w1.heap.size := hb0.lt
      generalize wr.heap.size = gv at *
      have hD1 := Lib.hid (HD.out.below HT2.out)
      have hdg : d < gv := Nat.lt_of_lt_of_le HD.out.lt (Nat.le_of_lt hgv)
      have HS := Lib.hid hS
      clear HT HB hS hT0
      clear wr
      have hsll : (sched256 p 64).length = 64 := schedTo_len _ _ _
      generalize hsl : sched256 p 64 = sl at *
      have Hsl := Lib.hid hsl
      clear hsl
      go_loopw [73] (fun i wr => ∃ k : Nat, k ≤ 8 ∧ i = .int .i64 k ∧ Blk wr gv 116 (part U32 (.int .u32 0) ((hs.map UInt64.toUInt32).take k) 8) ∧ Below gv w1 wr) (fun i _ => 8 - (intOf i).toNat)
      case atStart => exact ⟨0, by omega, rfl, hb0, Below.refl _ _⟩
      case round =>
        obtain ⟨k, hk, rfl, hB, hT⟩ := hrel
        clear hb0
        have hlk : ((hs.map UInt64.toUInt32).take k).length = k := by rw [List.length_take, List.length_map, H8.out]; omega
        rcases Nat.lt_or_ge k 8 with hlt | hge
        · obtain ⟨x, hx⟩ : ∃ x, hs[k]? = some x := ⟨_, List.getElem?_eq_getElem (by rw [H8.out]; exact hlt)⟩
          have cx := ((hD1.out.keep (hT.block d hdg)).cell (1 + k)).trans (hcells_get kind hs wv cnt k x hx)
          have ck := (hB.cell k).trans (part_next U32 (.int .u32 0) _ 8 k hlk hlt)
          have fk := hB.frozen k
          have hs1 := Lib.hid (show (hs.map UInt64.toUInt32).take (k + 1) = (hs.map UInt64.toUInt32).take k ++ [x.toUInt32] by rw [List.take_add_one, List.getElem?_map, hx]; rfl)
          have hki : (k : Int) < 8 := by omega
          have HB := Lib.hid hB
          have HT := Lib.hid hT
          have Hlk := Lib.hid hlk
          clear hB hT hlk hlt hk hx
          go_wp2_with fail
          go_roundw
          case rel =>
            refine ⟨k + 1, by omega, by go_num, ?_, HT.out.setCell (Nat.le_refl _) _⟩
            rw [hs1.out]
            have := HB.out.set_ k (U32 x.toUInt32)
            rw [part_setk _ _ _ _ _ _ Hlk.out (by omega)] at this
            exact this
          case measure => simp [intOf]; omega
        · obtain rfl : k = 8 := by omega
          rw [part_full _ _ _ _ hlk, List.take_of_length_le (by rw [List.length_map, H8.out]; omega)] at hB
          have HT := Lib.hid hT
          have HB := Lib.hid hB
          clear hT hB hlk hk hge
          have hr := (HS.out.keep (HT.out.block _ hgv))
          have hrg := hr.range
          have hi64 : (Tryd.prog.info? 115).map (·.size) = some (sl.map U32).length := by rw [List.length_map, hsll]; kernel_rfl
          have HR := Lib.hid (And.intro hrg hi64)
          clear hrg hi64 hr
          go_wp2_with (refine wpList_load_mid rfl 115 (.tmp 4) rfl w.heap.size 0 rfl (sl.map U32) _ HR.out.1 Tryd.underlying115 rfl HR.out.2 ?_)
          obtain ⟨AW, hAW⟩ : ∃ AW, (sl.map U32).toArray = AW := ⟨_, rfl⟩
          have hAx : ∀ k, k < 64 → AW[k]? = some (U32 (sl.getD k 0)) := fun k hk => by rw [← hAW]; simp [List.getD, show k < sl.length by omega]
          have HAx := Lib.hid hAx
          rw [hAW]
          clear hAW hAx HR
          have hDr := Lib.hid (hD1.out.keep (HT.out.block d hdg))
          have hKr := Lib.hid ((HK.out.below HT2.out).belowB HT.out (Nat.lt_trans HK.out.1 hgv))
          have HTr := Lib.hid (HT2.out.trans (HT.out.mono (Nat.le_of_lt hgv)))
          have hvo : (hs.map UInt64.toUInt32).map U32 = (run256 kTab32 sl (V8.of (hs.map UInt64.toUInt32)) 0).list.map U32 := by
            have h8 := H8.out
            match hs, h8 with
            | [_, _, _, _, _, _, _, _], _ => rfl
          have hB3 := HB.out
          rw [hvo] at hB3
          clear hvo HB
          generalize hv0 : V8.of (hs.map UInt64.toUInt32) = v0 at *
          have Hv0 := Lib.hid hv0
          have h0g : 1 < gv := Nat.lt_trans HK.out.1 hgv
          have hgvw : w.heap.size < gv := hgv
          clear hv0 HT HT2 HS hD1 hlv
          generalize hw3 : wr = w3 at *
          clear hw3
          go_loopw [87] (fun i wr => ∃ k : Nat, k ≤ 64 ∧ i = .int .i64 k ∧ Blk wr gv 116 ((run256 kTab32 sl v0 k).list.map U32).toArray ∧ Below gv w3 wr) (fun i _ => 64 - (intOf i).toNat)
          case atStart => exact ⟨0, by omega, rfl, hB3, Below.refl _ _⟩
          case round =>
            obtain ⟨k, hk, rfl, hB, hT⟩ := hrel
            clear hB3
            rcases Nat.lt_or_ge k 64 with hlt | hge
            · --ROUND3
              have HKk := Lib.hid ((hKr.out.belowB hT h0g).at_ (k := k) (by omega))
              have hix := fun w => index_arr (t := 115) (q := .i64) Tryd.underlying115 Tryd.underlying75 (by kernel_rfl) hlt (HAx.out k hlt) w
              have hsc := Lib.hid (show run256 kTab32 sl v0 (k + 1) = step256 (run256 kTab32 sl v0 k) (kTab32.getD k 0) (sl.getD k 0) from rfl)
              rw [kTab32_get k (by omega)] at hsc
              generalize kTab.getD k 0 = kk at *
              generalize sl.getD k 0 = x at *
              generalize run256 kTab32 sl v0 k = V at *
              obtain ⟨va, vb, vc, vd, ve, vf, vg, vh⟩ := V
              obtain ⟨c0, c1, c2, c3, c4, c5, c6, c7⟩ := blk8 hB
              have fz := hB.frozen
              have ck := HKk.out
              have hki : (k : Int) < 64 := by omega
              have hk80 : (k : Int) < 80 := by omega
              have hk0 : (0 : Int) ≤ k := by omega
              have HB := Lib.hid hB
              have HT := Lib.hid hT
              clear hB hT hlt hk fz
              go_wp2_with fail
              go_quiet (fail)
              replace HB := Lib.hid (HB.out.drewN nq)
              replace HT := Lib.hid (bel_drewN HT.out nq)
              replace HKk : Hid ((wr.drewN nq).cell? ⟨1, k, none⟩ = some (U64 kk)) := HKk
              clear c0 c1 c2 c3 c4 c5 c6 c7 ck
              generalize wr.drewN nq = w4 at *
              clear wr
              obtain ⟨c0, c1, c2, c3, c4, c5, c6, c7⟩ := blk8 HB.out
              have ck := HKk.out
              go_wp2_with fail
              refine (rot32_any _ _ 26 _ (by decide) (by decide)).mono ?_
              rintro e w' ⟨rfl, rfl⟩
              go_wp2_with fail
              refine (rot32_any _ _ 21 _ (by decide) (by decide)).mono ?_
              rintro e w' ⟨rfl, rfl⟩
              go_wp2_with fail
              refine (rot32_any _ _ 7 _ (by decide) (by decide)).mono ?_
              rintro e w' ⟨rfl, rfl⟩
              go_wp2_with fail
              go_quiet (fail)
              replace HB := Lib.hid (HB.out.drewN nq)
              replace HT := Lib.hid (bel_drewN HT.out nq)
              replace HKk : Hid ((w4.drewN nq).cell? ⟨1, k, none⟩ = some (U64 kk)) := HKk
              clear c0 c1 c2 c3 c4 c5 c6 c7 ck
              generalize w4.drewN nq = w5 at *
              clear w4
              obtain ⟨c0, c1, c2, c3, c4, c5, c6, c7⟩ := blk8 HB.out
              have ck := HKk.out
              go_wp2_with fail
              refine (rot32_any _ _ 30 _ (by decide) (by decide)).mono ?_
              rintro e w' ⟨rfl, rfl⟩
              go_wp2_with fail
              refine (rot32_any _ _ 19 _ (by decide) (by decide)).mono ?_
              rintro e w' ⟨rfl, rfl⟩
              go_wp2_with fail
              refine (rot32_any _ _ 10 _ (by decide) (by decide)).mono ?_
              rintro e w' ⟨rfl, rfl⟩
              go_wp2_with (first | (refine wpList_build_at rfl 116 _ rfl #[U32 (t256 ⟨va, vb, vc, vd, ve, vf, vg, vh⟩ (kk >>> 32).toUInt32 x + u256 ⟨va, vb, vc, vd, ve, vf, vg, vh⟩), U32 va, U32 vb, U32 vc, U32 (vd + t256 ⟨va, vb, vc, vd, ve, vf, vg, vh⟩ (kk >>> 32).toUInt32 x), U32 ve, U32 vf, U32 vg] (by rfl) ?_) | (refine wpList_store_arr rfl 116 (.tmp 10) _ rfl gv 116 _ [U32 (t256 ⟨va, vb, vc, vd, ve, vf, vg, vh⟩ (kk >>> 32).toUInt32 x + u256 ⟨va, vb, vc, vd, ve, vf, vg, vh⟩), U32 va, U32 vb, U32 vc, U32 (vd + t256 ⟨va, vb, vc, vd, ve, vf, vg, vh⟩ (kk >>> 32).toUInt32 x), U32 ve, U32 vf, U32 vg] HB.out rfl rfl (by kernel_rfl) (by rfl) (by rfl) ?_; intro w6 hB6 hT6))
              refine ⟨⟨k + 1, by omega, by go_num, ?_, ?_⟩, by simp [intOf]; omega⟩
              · rw [hsc.out]; exact hB6
              · exact below_turn HT.out hT6 (by simp) (Nat.le_of_lt HB.out.lt)
            · --AFTER3
              obtain rfl : k = 64 := by omega
              clear hk hge HAx
              have hq : ¬ ((64 : Int) < 64) := by omega
              have HB := Lib.hid hB
              have HT := Lib.hid hT
              clear hB hT
              go_wp2_with (refine wpList_load_arr rfl 116 (.tmp 10) rfl gv 116 _ HB.out rfl _ Tryd.underlying116 rfl (by kernel_rfl) ?_)
              have hnew : ∀ k x, (run256 kTab32 sl v0 64).list[k]? = some x → ((run256 kTab32 sl v0 64).list.map U32).toArray[k]? = some (U32 x) := fun k x h => by rw [List.getElem?_toArray, List.getElem?_map, h]; rfl
              have hout : take256 hs p = List.zipWith (fun h x => (h.toUInt32 + x).toUInt64) hs (run256 kTab32 sl v0 64).list := by unfold take256 out256; rw [Hsl.out, Hv0.out]
              have hol : (run256 kTab32 sl v0 64).list.length = 8 := rfl
              have hDw := Lib.hid (hDr.out.keep (HT.out.block d hdg))
              have hTw := Lib.hid (Turn.of_below [d] (HTr.out.trans (HT.out.mono (Nat.le_of_lt hgvw))))
              generalize (run256 kTab32 sl v0 64).list = ol at *
              generalize (ol.map U32).toArray = OA at *
              have Hnew := Lib.hid hnew
              have Hout := Lib.hid hout
              have Hol := Lib.hid hol
              clear hnew hout hol HT HB
              generalize hwz : wr = wz at *
              clear hwz
              go_loopw [171] (fun i wr => ∃ k : Nat, k ≤ 8 ∧ i = .int .i64 k ∧ Blk wr d 94 (hcells kind (mixTo (take256 hs p) hs k) wv cnt) ∧ Turn [d] w wr) (fun i _ => 8 - (intOf i).toNat)
              case atStart => exact ⟨0, by omega, rfl, by simpa [mixTo] using hDw.out, hTw.out⟩
              case round =>
                obtain ⟨k, hk, rfl, hB, hT⟩ := hrel
                have hnl : (take256 hs p).length = 8 := by rw [Hout.out]; simp [H8.out, Hol.out]
                rcases Nat.lt_or_ge k 8 with hlt | hge
                · obtain ⟨x, hx⟩ : ∃ x, hs[k]? = some x := ⟨_, List.getElem?_eq_getElem (by rw [H8.out]; exact hlt)⟩
                  obtain ⟨y, hy⟩ : ∃ y, ol[k]? = some y := ⟨_, List.getElem?_eq_getElem (by rw [Hol.out]; exact hlt)⟩
                  have hm : (mixTo (take256 hs p) hs k)[k]? = some x := (mixTo_get _ _ _ (by omega)).trans hx
                  have hmx : (take256 hs p)[k]? = some (x.toUInt32 + y).toUInt64 := by rw [Hout.out, List.getElem?_zipWith, hx, hy]
                  have cx := (hB.cell (1 + k)).trans (hcells_get kind _ wv cnt k x hm)
                  have fx := hB.frozen (1 + k)
                  have hix := fun w => index_arr (t := 116) (q := .i64) Tryd.underlying116 Tryd.underlying75 (by kernel_rfl) hlt (Hnew.out k y hy) w
                  have hki : (k : Int) < 8 := by omega
                  have hk0 : (0 : Int) ≤ k := by omega
                  have HM := Lib.hid (And.intro hmx (And.intro hnl hx))
                  have HB := Lib.hid hB
                  have HT := Lib.hid hT
                  clear hB hT hlt hk hx hy hm hmx hnl
                  go_wp2_with fail
                  go_still_tail 15, (by kernel_rfl)
                  go_wp2_with fail
                  obtain ⟨hmx, hnl, hx⟩ := HM.out
                  refine ⟨⟨k + 1, by omega, by go_num, ?_, (HT.out.setCell (.inl (by simp)) _).drew⟩, by simp [intOf]; omega⟩
                  have hz : (x % 4294967296 + y.toUInt64) % 4294967296 = (x.toUInt32 + y).toUInt64 := by simp
                  rw [hz]
                  have := (HB.out.set_ (1 + k) (U64 (x.toUInt32 + y).toUInt64)).drew
                  rw [hcells_set _ _ _ _ _ _ (by rw [mixTo_len _ _ _ (by omega) (by rw [hnl, H8.out]; omega), H8.out]; omega), mixTo_set _ _ _ _ hmx (by rw [H8.out]; omega)] at this
                  exact this
                · obtain rfl : k = 8 := by omega
                  have hq : ¬ ((8 : Int) < 8) := by omega
                  have HB := Lib.hid hB
                  have HT := Lib.hid hT
                  have HN := Lib.hid hnl
                  clear hB hT hnl
                  go_wp2_with fail
                  go_end0
                  refine ⟨rfl, ?_, HT.out⟩
                  have := HB.out
                  unfold mixTo at this
                  rw [List.drop_eq_nil_of_le (by rw [H8.out]; omega), List.append_nil, List.take_of_length_le (by rw [HN.out]; omega)] at this
                  exact this
end Go.Proofs.YtddemlajfbagdaaDoor
