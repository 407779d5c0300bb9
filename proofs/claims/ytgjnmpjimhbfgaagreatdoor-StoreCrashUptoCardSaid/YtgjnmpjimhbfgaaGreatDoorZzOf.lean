/-
  Contract of (*hashes.Hash).Sum.
-/
import Derived.Test.YtgjnmpjimhbfgaaGreatDoorZzCopy
import Derived.Deep.RegionHeld3
namespace Go.Proofs.YtgjnmpjimhbfgaaGreatDoor
set_option maxRecDepth 100000
open Go.RowKit
theorem HashAt.below {w w' : World} {d : Nat} {kind : Int} {hs : List UInt64} {wait : List UInt8} {n : UInt64} {wv : Value} (h : HashAt w d kind hs wait n wv) (hb : Below w.heap.size w w') : HashAt w' d kind hs wait n wv :=
 ⟨h.kindOk, h.blk.below hb, h.len, h.own.below hb, h.ne0⟩
theorem HashAt.turn {w w' : World} {S : List Nat} {d : Nat} {kind : Int} {hs : List UInt64} {wait : List UInt8} {n : UInt64} {wv : Value} (h : HashAt w d kind hs wait n wv) (hb : Turn S w w') (hd : d ∉ S) (hw : ∀ g, wv.ownBlock = some g → g ∉ S) : HashAt w' d kind hs wait n wv :=
 ⟨h.kindOk, h.blk.turn hb hd, h.len, h.own.turn hb hw, h.ne0⟩
def wordsOf (kind : Int) (hs : List UInt64) : List UInt8 := if bl kind = 64 then hs.flatMap fun x => bytes32 x.toUInt32 else hs.flatMap bytes64
def padN (B L : Nat) : Nat := if (L + 1 + B / 8) % B = 0 then 1 else B - (L + 1 + B / 8) % B + 1
def lenB (B : Nat) (n : UInt64) : List UInt8 := if B = 64 then bytes64 (n <<< 3) else bytes64 (n >>> 61) ++ bytes64 (n <<< 3)
def padB (B L : Nat) (n : UInt64) : List UInt8 := (0x80 :: List.replicate (padN B L - 1) 0) ++ lenB B n
def sumOf (kind : Int) (hs : List UInt64) (wait : List UInt8) (n : UInt64) : List UInt8 :=
 (wordsOf kind (absorb kind hs (wait ++ padB (bl kind) wait.length n))).take (hsize kind).toNat
theorem pad_cell (w : World) (n : Nat) (h : 0 < n) : (w.alloc (.cells (madeCells #[.int .u8 0] n) 5)).cell? ⟨w.heap.size, 0, none⟩ = some (.int .u8 0) := by
 rw [(Blk.new w 5 (madeCells #[.int .u8 0] n)).cell 0, madeCells_one]
 simp [h]
theorem pad_own (w : World) (pm n : Nat) (o : Obj) (h1 : 1 ≤ pm) (h2 : pm ≤ n) (h3 : n ≤ 1000) :
  Own ((w.alloc (.cells ((madeCells #[.int .u8 0] n).setIfInBounds 0 (.int .u8 128)) 5)).alloc o) w.heap.size (.slice (some ⟨w.heap.size, 0, none⟩) pm n) (0x80 :: List.replicate (pm - 1) 0) := by
 have hb := (Blk.new w 5 ((madeCells #[.int .u8 0] n).setIfInBounds 0 (.int .u8 128))).alloc o
 rw [madeCells_one] at hb ⊢
 have hlen : (0x80 :: List.replicate (pm - 1) (0 : UInt8)).length = pm := by simp; omega
 have hcur : (Array.replicate n (.int .u8 0 : Value)).setIfInBounds 0 (.int .u8 128) = ((.int .u8 128 : Value) :: List.replicate (n - 1) (.int .u8 0)).toArray := by
  obtain ⟨k, rfl⟩ : ∃ k, n = k + 1 := ⟨n - 1, by omega⟩
  apply Array.toList_inj.1
  rw [Array.toList_setIfInBounds, Array.toList_replicate, List.replicate_succ]
  simp
 rw [hcur] at hb ⊢
 have := Own.of_cells (l := 0x80 :: List.replicate (pm - 1) (0 : UInt8)) hb (Nat.le_refl w.heap.size) (c := n) (by simp; omega) (by unfold maxLen; omega) (by rw [hlen]; exact h2) (by
  rw [hlen]
  obtain ⟨k, rfl⟩ : ∃ k, pm = k + 1 := ⟨pm - 1, by omega⟩
  rw [List.take_succ_cons, List.map_cons]
  congr 1
  rw [List.take_replicate, List.map_replicate]
  have : min k (n - 1) = k := by omega
  rw [this]; rfl)
 rw [hlen] at this
 exact this
theorem Own.ne_nil {w : World} {base : Nat} {v : Value} {l : List UInt8} (h : Own w base v l) (hl : 0 < l.length) : v ≠ .slice none 0 0 := by
 rintro rfl
 obtain ⟨A, c, he, _⟩ := h.shape
 injection he with _ h2 _
 omega
theorem flat_len {α : Type} (l : List α) (f : α → List UInt8) (c : Nat) (h : ∀ x, (f x).length = c) : (l.flatMap f).length = l.length * c := by
 induction l with
 | nil => simp
 | cons a l ih => rw [List.flatMap_cons, List.length_append, ih, h, List.length_cons, Nat.add_mul]; omega
theorem Own.front {w : World} {base g n c k : Nat} {l : List UInt8} (h : Own w base (.slice (some ⟨g, 0, none⟩) n c) l) (hk : k ≤ n) : Own w base (.slice (some ⟨g, 0, none⟩) k c) (l.take k) := by
 obtain ⟨e0, e1, e2, e3, cur, hh, hcl, htk⟩ := h.blk
 have hl : (l.take k).length = k := by rw [List.length_take]; omega
 have := Own.of_cells (l := l.take k) hh e3 hcl e2 (by omega) (by rw [hl, List.map_take, ← htk, List.take_take]; congr 1; omega)
 rwa [hl] at this
set_option maxHeartbeats 4000000 in
theorem sum64 (d : Nat) (kind : Int) (hs : List UInt64) (wait : List UInt8) (n : UInt64) (wv : Value) (w : World) (h : HashAt w d kind hs wait n wv) (hl : wait.length ≤ 70368744177664) (hK : KAt w) (hb : hblock kind = 64) :
  Calls Tryz.prog 105 #[.pointer (some ⟨d, 0, none⟩)] w fun e w' => ∃ g c, e = .returned (.slice (some ⟨g, 0, none⟩) (sumOf kind hs wait n).length c) ∧
   Own w' w.heap.size (.slice (some ⟨g, 0, none⟩) (sumOf kind hs wait n).length c) (sumOf kind hs wait n) ∧ Below w.heap.size w w' := by
 have c0 : w.cell? ⟨d, 0, none⟩ = some (.int .i64 kind) := h.blk.cell 0
 have c10 := (h.blk.cell 10).trans (hcells_get10 kind hs _ n h.len)
 have hdl := h.blk.lt
 have HC := Lib.hid (copy_any d kind hs wait n wv w.drew (h.below (Below.refl _ w).drew) (by omega) hK)
 have HBl := Lib.hid (block_any kind)
 rw [hb] at HBl
 have HH := Lib.hid (And.intro h (And.intro hK hb))
 clear h hK hb
 obtain ⟨L, hL⟩ : ∃ L, wait.length = L := ⟨_, rfl⟩
 rw [hL] at hl
 go_enter Tryz.func105, Tryz.ntmps105
 go_wp2_with fail
 go_region_held3 (fun w' => w'.cell? ⟨d, 0, none⟩ = some (.int .i64 kind)) (first | go_keep | (exact g0))
  (first
   | (go_at_call 134; refine HC.out.mono ?_; rintro e w1 ⟨d1, wv1, rfl, hd1, h1, hw1, hb1⟩; have hbel : Below w.heap.size w w1 := (Below.refl _ w).drew.trans hb1; have g0 := (hbel.cell (p := ⟨d, 0, none⟩) hdl).trans c0)
   | (go_at_call 132; refine (HBl.out _).mono ?_; rintro e w' ⟨rfl, rfl⟩))
 simp only [Exit.then]
 obtain ⟨A1, c1, rfl, _, _⟩ := h1.own.shape
 have h9 := (h1.blk.cell 9).trans (hcells_get9 kind hs _ n h1.len)
 rw [hL] at h9 h1 hw1
 replace c10 := (hbel.cell (p := ⟨d, 10, none⟩) hdl).trans c10
 have hdl1 : d < w1.heap.size := Nat.lt_of_lt_of_le hdl hbel.size
 have hd1l : d1 < w1.heap.size := h1.blk.lt
 have H1 := Lib.hid (And.intro hd1 (And.intro h1 (And.intro hw1 hbel)))
 have HL := Lib.hid hL
 clear hd1 h1 hw1 hb1 hbel hL HC c0 g0
 have hmkR : ∀ w : World, (Instr.makeSlice 32 (.int .i64 8) (.int .i64 8)).run Tryz.prog w = .ok (.slice (some ⟨w.heap.size, 0, none⟩) 8 8) (w.alloc (.cells (madeCells #[.int .u8 0] 8) 5)) := fun w => by
  have := Tryz.prog_make 8 (by omega) w
  rwa [show ((8 : Nat) : Int) = 8 from rfl] at this
 by_cases hz : (L + 1 + 8) % 64 = 0
 ·have hzi : (((L : Int) + 1 + 8) % 64 == 0) = true := by simp; omega
  have hpz : (64 - ((L : Int) + 1 + 8) % 64 + 1) = ((64 + 1 : Nat) : Int) := by omega
  have hmk : ∀ w : World, (Instr.makeSlice 32 (.int .i64 (64 - ((L : Int) + 1 + 8) % 64 + 1)) (.int .i64 (64 - ((L : Int) + 1 + 8) % 64 + 1))).run Tryz.prog w = .ok (.slice (some ⟨w.heap.size, 0, none⟩) 65 65) (w.alloc (.cells (madeCells #[.int .u8 0] 65) 5)) := fun w => by
   rw [hpz]; exact Tryz.prog_make 65 (by omega) w
  have cp := pad_cell w1 65 (by omega)
  have fp := (Blk.new w1 5 (madeCells #[.int .u8 0] 65)).frozen 0
  have HPM := Lib.hid (show padN 64 L = 1 by unfold padN; rw [if_pos (by simpa using hz)])
  clear hpz hz
  go_wp2_with fail
  have hP : Own ((w1.alloc (.cells ((madeCells #[.int .u8 0] 65).setIfInBounds 0 (.int .u8 128)) 5)).alloc (.cells (madeCells #[.int .u8 0] 8) 5)) w1.heap.size (.slice (some ⟨w1.heap.size, 0, none⟩) 1 65) (0x80 :: List.replicate (1 - 1) 0) := pad_own w1 1 65 (.cells (madeCells #[.int .u8 0] 8) 5) (by omega) (by omega) (by omega)
  have hLn : Own ((w1.alloc (.cells ((madeCells #[.int .u8 0] 65).setIfInBounds 0 (.int .u8 128)) 5)).alloc (.cells (madeCells #[.int .u8 0] 8) 5)) w1.heap.size (.slice (some ⟨w1.heap.size + 1, 0, none⟩) 8 8) (zs 8) := by
   have := (Own.made (w1.alloc (.cells ((madeCells #[.int .u8 0] 65).setIfInBounds 0 (.int .u8 128)) 5)) 8 (by decide)).mono (base' := w1.heap.size) (by simp)
   simpa using this
  have hb3 : Below w1.heap.size w1 ((w1.alloc (.cells ((madeCells #[.int .u8 0] 65).setIfInBounds 0 (.int .u8 128)) 5)).alloc (.cells (madeCells #[.int .u8 0] 8) 5)) := ((Below.refl _ _).alloc (Nat.le_refl _) _).alloc (by simp) _
  have hz3 : ((w1.alloc (.cells ((madeCells #[.int .u8 0] 65).setIfInBounds 0 (.int .u8 128)) 5)).alloc (.cells (madeCells #[.int .u8 0] 8) 5)).heap.size = w1.heap.size + 2 := by simp
  revert hP hLn hb3 hz3
  generalize (w1.alloc (.cells ((madeCells #[.int .u8 0] 65).setIfInBounds 0 (.int .u8 128)) 5)).alloc (.cells (madeCells #[.int .u8 0] 8) 5) = w3
  intro hP hLn hb3 hz3
  have e10 := (hb3.cell (p := ⟨d, 10, none⟩) hdl1).trans c10
  have e0 := (hb3.cell (p := ⟨d, 0, none⟩) hdl1).trans ((H1.out.2.2.2.cell (p := ⟨d, 0, none⟩) hdl).trans (HH.out.1.blk.cell 0))
  have hput := put64_any w1.heap.size (w1.heap.size + 1) 8 8 0 8 8 (zs 8) (n <<< 3) w3.drew hLn (by show w1.heap.size ≤ w3.heap.size; omega) (by rw [zs_len]; decide) (by omega) (by omega)
  have hPut := Lib.hid hput
  have H3 := Lib.hid (And.intro hP (And.intro hLn (And.intro hb3 (And.intro hz3 e0))))
  clear hput hP hLn hb3 hz3 c10 h9 hmk hzi cp fp e0
  have hwr : IntKind.i64.wrap 0 = 0 := by decide
  have hwr2 : IntKind.i64.wrap 0 = 0 := by decide
  go_region_held3 (fun w' => w'.cell? ⟨d, 10, none⟩ = some (U64 n)) (first | go_keep | (exact g0)) ((go_at_call 135; refine hPut.out.mono ?_; rintro e w4 ⟨rfl, ho4, ht4⟩; have g0 := cell_turn (show w3.drew.cell? ⟨d, 10, none⟩ = _ from e10) ht4 (by simp; omega)))
  simp only [Exit.then]
  have htA : Turn [w1.heap.size + 1] w3 w4 := ((Turn.refl [w1.heap.size + 1] w3).drew).trans ht4 (fun x hx => .inl hx)
  have hlen : Own w4 w1.heap.size (.slice (some ⟨w1.heap.size + 1, 0, none⟩) 8 8) (lenB 64 n) := by
   have e : splice (zs 8) 0 (bytes64 (n <<< 3)) = lenB 64 n := by simp [splice, zs, bytes64, lenB]
   rw [← e]; exact ho4
  clear ho4 ht4
  obtain ⟨hP, hLn, hb3, hz3, e0⟩ := H3.out
  have hP4 := hP.turn htA (fun g hg hm => by simp [Value.ownBlock] at hg hm; omega)
  have hb4 : Below w1.heap.size w1 w4 := below_turn hb3 htA (by simp) (by omega)
  have e0' := cell_turn e0 htA (by simp; omega)
  have hz4 : w1.heap.size + 2 ≤ w4.heap.size := by have := htA.size; omega
  have h5 := H1.out.2.1.below hb4
  have hK5 := (HH.out.2.1.below H1.out.2.2.2).below hb4
  have hrl : Rd w4 (some ⟨w1.heap.size + 1, 0, none⟩) 8 8 (lenB 64 n) := by
   obtain ⟨A, c, he, hr, _⟩ := hlen.shape
   cases he; exact hr
  have hll : (lenB 64 n).length = 8 := rfl
  have hpl : (0x80 :: List.replicate (1 - 1) (0 : UInt8)).length = 1 := by simp
  have hpb : (0x80 :: List.replicate (1 - 1) (0 : UInt8)) ++ lenB 64 n = padB 64 L n := by unfold padB; rw [HPM.out]
  have HW := Lib.hid (And.intro h5 (And.intro hK5 (And.intro hb4 (And.intro hz4 (And.intro hpl hll)))))
  have HAP := Lib.hid (And.intro hP4 (And.intro hrl hpb))
  have h56 : ((64 : Int) == 64) = true := rfl
  clear h5 hK5 hb4 hz4 hpl hll hP4 hrl hpb hlen hP hLn hb3 hz3 e0 H3 htA hPut
  go_wp2_with (first
   | (at_builtin; refine wp_app rfl _ _ rfl w1.heap.size _ (0x80 :: List.replicate (1 - 1) (0 : UInt8)) rfl HAP.out.1 (some ⟨w1.heap.size + 1, 0, none⟩) 8 8 (lenB 64 n) rfl HAP.out.2.1 (by rw [HW.out.2.2.2.2.1, HW.out.2.2.2.2.2]; omega) (by have := HW.out.2.2.2.1; omega) ?_; intro va w5 hoa hga hna hba; rw [HAP.out.2.2] at hoa)
   )
  have hT5 : Turn [w1.heap.size] w4 w5 := Turn.of_grown (v := .slice (some ⟨w1.heap.size, 0, none⟩) 1 65) hga
  have hb5 : Below w1.heap.size w1 w5 := below_turn HW.out.2.2.1 hT5 (by simp) (by have := HW.out.2.2.2.1; omega)
  have h5 := H1.out.2.1.below hb5
  have hK5 := (HH.out.2.1.below H1.out.2.2.2).below hb5
  have hw1l : ∀ g, (Value.slice A1 L c1).ownBlock = some g → w.heap.size ≤ g ∧ g < w1.heap.size := fun g hg => ⟨H1.out.2.2.1 g hg, (H1.out.2.1.own.lt hg).2⟩
  obtain ⟨Aa, ca, rfl, hra, hbase⟩ := hoa.shape
  have hpbl : (padB 64 L n).length ≤ 1000 := by rw [← HAP.out.2.2, List.length_append, HW.out.2.2.2.2.1, HW.out.2.2.2.2.2]; omega
  have hWr := write_any d1 kind hs wait n (.slice A1 L c1) Aa _ ca (padB 64 L n) w5 h5 hra (by rw [HL.out]; omega) hK5
   (fun ad had => by
    have h1 := hbase ad had
    refine ⟨by omega, fun hw => ?_⟩
    have := hw1l _ hw
    omega)
  refine hWr.mono ?_
  rintro e w6 ⟨rfl, ⟨wv6, h6, _⟩, hT6⟩
  have hS6 : ∀ t ∈ d1 :: (Value.slice A1 L c1).ownBlock.toList, w.heap.size ≤ t := by
   intro t ht
   rcases List.mem_cons.1 ht with rfl | ht
   ·exact H1.out.1
   ·exact (hw1l t (by simpa using ht)).1
  have hb6 : Below w.heap.size w w6 := below_turn ((H1.out.2.2.2).trans (hb5.mono H1.out.2.2.2.size)) hT6 hS6 (Nat.le_trans H1.out.2.2.2.size hb5.size)
  have e06 := (hb6.cell (p := ⟨d, 0, none⟩) hdl).trans (HH.out.1.blk.cell 0)
  have hDm : w6.rangeAt d1 1 ((absorb kind hs (wait ++ padB 64 L n)).map U64) := fun j v hv => by
   rw [List.getElem?_map] at hv
   obtain ⟨x, hx, rfl⟩ := Option.map_eq_some_iff.1 hv
   exact (h6.blk.cell (1 + j)).trans (hcells_get kind _ _ _ j x hx)
  have h68 := h6.len
  have hsum : sumOf kind hs wait n = (wordsOf kind (absorb kind hs (wait ++ padB 64 L n))).take (hsize kind).toNat := by
   unfold sumOf bl; rw [HH.out.2.2, HL.out]; rfl
  generalize absorb kind hs (wait ++ padB 64 L n) = sl at *
  have hi8 : (Tryz.prog.info? 165).map (·.size) = some (sl.map U64).length := by rw [List.length_map, h68]; kernel_rfl
  have HS := Lib.hid (And.intro hDm (And.intro hi8 (And.intro h68 hsum)))
  have HB6 := Lib.hid (And.intro hb6 e06)
  clear hDm hi8 hsum h68 hb6 e06 h6 hT6 hS6 hWr hra hbase hT5 hb5 h5 hK5 hw1l hoa hga hna hba hpbl HAP HW
  simp only [hcells, List.getElem?_toArray, List.getElem?_cons_zero] at HB6
  go_wp2_with (refine wpList_load_mid rfl 165 _ rfl d1 1 rfl (sl.map U64) _ HS.out.1 Tryz.underlying165 rfl HS.out.2.1 ?_)
  obtain ⟨OA, hOA⟩ : ∃ OA, (sl.map U64).toArray = OA := ⟨_, rfl⟩
  have hnew := Lib.hid (show ∀ k x, sl[k]? = some x → OA[k]? = some (U64 x) from fun k x h => by rw [← hOA, List.getElem?_toArray, List.getElem?_map, h]; rfl)
  rw [hOA]
  clear hOA
  go_loopw [8, 84] (fun v i wr => ∃ k : Nat, k ≤ 8 ∧ i = .int .i64 k ∧ Own wr w6.heap.size v ((sl.take k).flatMap fun x => bytes32 x.toUInt32) ∧ Below w6.heap.size w6 wr) (fun _ i _ => 8 - (intOf i).toNat)
  case atStart => exact ⟨0, by omega, rfl, World.ownsRow_nil _ _ _ _, Below.refl _ _⟩
  case round =>
   obtain ⟨k, hk, rfl, hO, hB⟩ := hrel
   rcases Nat.lt_or_ge k 8 with hlt | hge
   ·obtain ⟨x, hx⟩ : ∃ x, sl[k]? = some x := ⟨_, List.getElem?_eq_getElem (by rw [HS.out.2.2.1]; exact hlt)⟩
    have hix := fun w => index_arr (t := 165) (q := .i64) Tryz.underlying165 Tryz.underlying131 (by kernel_rfl) hlt (hnew.out k x hx) w
    have hln : ((sl.take k).flatMap fun x => bytes32 x.toUInt32).length ≤ 64 := by
     rw [flat_len _ _ 4 (fun _ => rfl), List.length_take]; omega
    have HAp := Lib.hid (append32_any u8 x.toUInt32 _ wr w6.heap.size hO hB.size (by omega))
    have hsc := Lib.hid (show (sl.take (k + 1)).flatMap (fun x => bytes32 x.toUInt32) = (sl.take k).flatMap (fun x => bytes32 x.toUInt32) ++ bytes32 x.toUInt32 by rw [List.take_add_one, hx, List.flatMap_append]; simp)
    have hki : (k : Int) < 8 := by omega
    have hk0 : (0 : Int) ≤ k := by omega
    have Hr := Lib.hid (And.intro hO hB)
    clear hO hB hlt hk hx hln
    go_wp2_with (go_at_call 67; refine HAp.out.mono ?_; rintro e w7 ⟨v7, rfl, ho7, ht7, _⟩)
    go_roundw
    case rel =>
     refine ⟨k + 1, by omega, by go_num, by rw [hsc.out]; exact ho7, below_turn Hr.out.2 ht7 (fun t ht => (Hr.out.1.lt (g := t) (by simpa using ht)).1) Hr.out.2.size⟩
    case measure => simp [intOf]; omega
   ·obtain rfl : k = 8 := by omega
    have hq : ¬ ((8 : Int) < 8) := by omega
    rw [List.take_of_length_le (by rw [HS.out.2.2.1]; omega)] at hO
    have hfl : (sl.flatMap fun x => bytes32 x.toUInt32).length = 32 := by rw [flat_len _ _ 4 (fun _ => rfl), HS.out.2.2.1]
    have hfs : sumOf kind hs wait n = (sl.flatMap fun x => bytes32 x.toUInt32).take (hsize kind).toNat := by
     rw [HS.out.2.2.2]; unfold wordsOf bl; rw [HH.out.2.2]; rfl
    obtain ⟨sz, hsz, hs1, hs2⟩ : ∃ sz : Nat, hsize kind = sz ∧ 1 ≤ sz ∧ sz ≤ 32 := by
     obtain ⟨k1, k2⟩ := HH.out.1.kindOk
     have hb := HH.out.2.2
     have hcase : kind = 1 ∨ kind = 2 ∨ kind = 3 ∨ kind = 4 ∨ kind = 5 := by omega
     rcases hcase with rfl | rfl | rfl | rfl | rfl <;> first | exact ⟨20, rfl, by omega, by omega⟩ | exact ⟨28, rfl, by omega, by omega⟩ | exact ⟨32, rfl, by omega, by omega⟩ | exact ⟨48, rfl, by omega, by omega⟩ | exact ⟨64, rfl, by omega, by omega⟩ | (simp [hblock] at hb)
    rw [hsz, Int.toNat_natCast] at hfs
    have hrs : (sumOf kind hs wait n).length = sz := by rw [hfs, List.length_take, hfl]; omega
    generalize (sl.flatMap fun x => bytes32 x.toUInt32) = ol at *
    obtain ⟨g, c, rfl⟩ := hO.form (hO.ne_nil (by rw [hfl]; decide))
    rw [hfl] at hO ⊢
    have hcc := hO.blk.2.1
    have hci : (sz : Int) ≤ c := by omega
    have e0r := (hB.cell (p := ⟨d, 0, none⟩) (Nat.lt_of_lt_of_le hdl HB6.out.1.size)).trans HB6.out.2
    have Hr := Lib.hid (And.intro hO (And.intro hB (And.intro hfs hrs)))
    have HSz := Lib.hid hsz
    clear hO hB hfs hrs hsz hk hge hcc
    go_wp2_with (go_at_call 129; refine (size_any kind _).mono ?_; rintro e w' ⟨rfl, rfl⟩; rw [HSz.out])
    go_ret
    obtain ⟨hO, hB, hfs, hrs⟩ := Hr.out
    refine ⟨g, c, by rw [hrs]; rfl, ?_, HB6.out.1.trans (hB.mono HB6.out.1.size)⟩
    rw [hrs, hfs]
    exact (hO.front hs2).mono HB6.out.1.size
 ·have hzi : (((L : Int) + 1 + 8) % 64 == 0) = false := by simp; omega
  obtain ⟨PM, hpn⟩ : ∃ pn : Nat, 64 - (L + 1 + 8) % 64 + 1 = pn := ⟨_, rfl⟩
  have hpz : (64 - ((L : Int) + 1 + 8) % 64 + 1) = (PM : Int) := by omega
  have hmk : ∀ w : World, (Instr.makeSlice 32 (.int .i64 (64 - ((L : Int) + 1 + 8) % 64 + 1)) (.int .i64 (64 - ((L : Int) + 1 + 8) % 64 + 1))).run Tryz.prog w = .ok (.slice (some ⟨w.heap.size, 0, none⟩) PM PM) (w.alloc (.cells (madeCells #[.int .u8 0] PM) 5)) := fun w => by
   rw [hpz]; exact Tryz.prog_make PM (by omega) w
  have hp1 : (1 : Int) ≤ PM := by omega
  have hp2 : PM ≤ 65 := by omega
  have cp := pad_cell w1 PM (by omega)
  have fp := (Blk.new w1 5 (madeCells #[.int .u8 0] PM)).frozen 0
  have HPM := Lib.hid (show padN 64 L = PM by unfold padN; rw [if_neg (by simpa using hz)]; exact hpn)
  clear hpn hpz hz
  go_wp2_with fail
  have hP : Own ((w1.alloc (.cells ((madeCells #[.int .u8 0] PM).setIfInBounds 0 (.int .u8 128)) 5)).alloc (.cells (madeCells #[.int .u8 0] 8) 5)) w1.heap.size (.slice (some ⟨w1.heap.size, 0, none⟩) PM PM) (0x80 :: List.replicate (PM - 1) 0) := pad_own w1 PM PM (.cells (madeCells #[.int .u8 0] 8) 5) (by omega) (by omega) (by omega)
  have hLn : Own ((w1.alloc (.cells ((madeCells #[.int .u8 0] PM).setIfInBounds 0 (.int .u8 128)) 5)).alloc (.cells (madeCells #[.int .u8 0] 8) 5)) w1.heap.size (.slice (some ⟨w1.heap.size + 1, 0, none⟩) 8 8) (zs 8) := by
   have := (Own.made (w1.alloc (.cells ((madeCells #[.int .u8 0] PM).setIfInBounds 0 (.int .u8 128)) 5)) 8 (by decide)).mono (base' := w1.heap.size) (by simp)
   simpa using this
  have hb3 : Below w1.heap.size w1 ((w1.alloc (.cells ((madeCells #[.int .u8 0] PM).setIfInBounds 0 (.int .u8 128)) 5)).alloc (.cells (madeCells #[.int .u8 0] 8) 5)) := ((Below.refl _ _).alloc (Nat.le_refl _) _).alloc (by simp) _
  have hz3 : ((w1.alloc (.cells ((madeCells #[.int .u8 0] PM).setIfInBounds 0 (.int .u8 128)) 5)).alloc (.cells (madeCells #[.int .u8 0] 8) 5)).heap.size = w1.heap.size + 2 := by simp
  revert hP hLn hb3 hz3
  generalize (w1.alloc (.cells ((madeCells #[.int .u8 0] PM).setIfInBounds 0 (.int .u8 128)) 5)).alloc (.cells (madeCells #[.int .u8 0] 8) 5) = w3
  intro hP hLn hb3 hz3
  have e10 := (hb3.cell (p := ⟨d, 10, none⟩) hdl1).trans c10
  have e0 := (hb3.cell (p := ⟨d, 0, none⟩) hdl1).trans ((H1.out.2.2.2.cell (p := ⟨d, 0, none⟩) hdl).trans (HH.out.1.blk.cell 0))
  have hput := put64_any w1.heap.size (w1.heap.size + 1) 8 8 0 8 8 (zs 8) (n <<< 3) w3.drew hLn (by show w1.heap.size ≤ w3.heap.size; omega) (by rw [zs_len]; decide) (by omega) (by omega)
  have hPut := Lib.hid hput
  have H3 := Lib.hid (And.intro hP (And.intro hLn (And.intro hb3 (And.intro hz3 e0))))
  clear hput hP hLn hb3 hz3 c10 h9 hmk hzi cp fp e0
  have hwr : IntKind.i64.wrap 0 = 0 := by decide
  have hwr2 : IntKind.i64.wrap 0 = 0 := by decide
  go_region_held3 (fun w' => w'.cell? ⟨d, 10, none⟩ = some (U64 n)) (first | go_keep | (exact g0)) ((go_at_call 135; refine hPut.out.mono ?_; rintro e w4 ⟨rfl, ho4, ht4⟩; have g0 := cell_turn (show w3.drew.cell? ⟨d, 10, none⟩ = _ from e10) ht4 (by simp; omega)))
  simp only [Exit.then]
  have htA : Turn [w1.heap.size + 1] w3 w4 := ((Turn.refl [w1.heap.size + 1] w3).drew).trans ht4 (fun x hx => .inl hx)
  have hlen : Own w4 w1.heap.size (.slice (some ⟨w1.heap.size + 1, 0, none⟩) 8 8) (lenB 64 n) := by
   have e : splice (zs 8) 0 (bytes64 (n <<< 3)) = lenB 64 n := by simp [splice, zs, bytes64, lenB]
   rw [← e]; exact ho4
  clear ho4 ht4
  obtain ⟨hP, hLn, hb3, hz3, e0⟩ := H3.out
  have hP4 := hP.turn htA (fun g hg hm => by simp [Value.ownBlock] at hg hm; omega)
  have hb4 : Below w1.heap.size w1 w4 := below_turn hb3 htA (by simp) (by omega)
  have e0' := cell_turn e0 htA (by simp; omega)
  have hz4 : w1.heap.size + 2 ≤ w4.heap.size := by have := htA.size; omega
  have h5 := H1.out.2.1.below hb4
  have hK5 := (HH.out.2.1.below H1.out.2.2.2).below hb4
  have hrl : Rd w4 (some ⟨w1.heap.size + 1, 0, none⟩) 8 8 (lenB 64 n) := by
   obtain ⟨A, c, he, hr, _⟩ := hlen.shape
   cases he; exact hr
  have hll : (lenB 64 n).length = 8 := rfl
  have hpl : (0x80 :: List.replicate (PM - 1) (0 : UInt8)).length = PM := by simp; omega
  have hpb : (0x80 :: List.replicate (PM - 1) (0 : UInt8)) ++ lenB 64 n = padB 64 L n := by unfold padB; rw [HPM.out]
  have HW := Lib.hid (And.intro h5 (And.intro hK5 (And.intro hb4 (And.intro hz4 (And.intro hpl hll)))))
  have HAP := Lib.hid (And.intro hP4 (And.intro hrl hpb))
  have h56 : ((64 : Int) == 64) = true := rfl
  clear h5 hK5 hb4 hz4 hpl hll hP4 hrl hpb hlen hP hLn hb3 hz3 e0 H3 htA hPut
  go_wp2_with (first
   | (at_builtin; refine wp_app rfl _ _ rfl w1.heap.size _ (0x80 :: List.replicate (PM - 1) (0 : UInt8)) rfl HAP.out.1 (some ⟨w1.heap.size + 1, 0, none⟩) 8 8 (lenB 64 n) rfl HAP.out.2.1 (by rw [HW.out.2.2.2.2.1, HW.out.2.2.2.2.2]; omega) (by have := HW.out.2.2.2.1; omega) ?_; intro va w5 hoa hga hna hba; rw [HAP.out.2.2] at hoa)
   )
  have hT5 : Turn [w1.heap.size] w4 w5 := Turn.of_grown (v := .slice (some ⟨w1.heap.size, 0, none⟩) PM PM) hga
  have hb5 : Below w1.heap.size w1 w5 := below_turn HW.out.2.2.1 hT5 (by simp) (by have := HW.out.2.2.2.1; omega)
  have h5 := H1.out.2.1.below hb5
  have hK5 := (HH.out.2.1.below H1.out.2.2.2).below hb5
  have hw1l : ∀ g, (Value.slice A1 L c1).ownBlock = some g → w.heap.size ≤ g ∧ g < w1.heap.size := fun g hg => ⟨H1.out.2.2.1 g hg, (H1.out.2.1.own.lt hg).2⟩
  obtain ⟨Aa, ca, rfl, hra, hbase⟩ := hoa.shape
  have hpbl : (padB 64 L n).length ≤ 1000 := by rw [← HAP.out.2.2, List.length_append, HW.out.2.2.2.2.1, HW.out.2.2.2.2.2]; omega
  have hWr := write_any d1 kind hs wait n (.slice A1 L c1) Aa _ ca (padB 64 L n) w5 h5 hra (by rw [HL.out]; omega) hK5
   (fun ad had => by
    have h1 := hbase ad had
    refine ⟨by omega, fun hw => ?_⟩
    have := hw1l _ hw
    omega)
  refine hWr.mono ?_
  rintro e w6 ⟨rfl, ⟨wv6, h6, _⟩, hT6⟩
  have hS6 : ∀ t ∈ d1 :: (Value.slice A1 L c1).ownBlock.toList, w.heap.size ≤ t := by
   intro t ht
   rcases List.mem_cons.1 ht with rfl | ht
   ·exact H1.out.1
   ·exact (hw1l t (by simpa using ht)).1
  have hb6 : Below w.heap.size w w6 := below_turn ((H1.out.2.2.2).trans (hb5.mono H1.out.2.2.2.size)) hT6 hS6 (Nat.le_trans H1.out.2.2.2.size hb5.size)
  have e06 := (hb6.cell (p := ⟨d, 0, none⟩) hdl).trans (HH.out.1.blk.cell 0)
  have hDm : w6.rangeAt d1 1 ((absorb kind hs (wait ++ padB 64 L n)).map U64) := fun j v hv => by
   rw [List.getElem?_map] at hv
   obtain ⟨x, hx, rfl⟩ := Option.map_eq_some_iff.1 hv
   exact (h6.blk.cell (1 + j)).trans (hcells_get kind _ _ _ j x hx)
  have h68 := h6.len
  have hsum : sumOf kind hs wait n = (wordsOf kind (absorb kind hs (wait ++ padB 64 L n))).take (hsize kind).toNat := by
   unfold sumOf bl; rw [HH.out.2.2, HL.out]; rfl
  generalize absorb kind hs (wait ++ padB 64 L n) = sl at *
  have hi8 : (Tryz.prog.info? 165).map (·.size) = some (sl.map U64).length := by rw [List.length_map, h68]; kernel_rfl
  have HS := Lib.hid (And.intro hDm (And.intro hi8 (And.intro h68 hsum)))
  have HB6 := Lib.hid (And.intro hb6 e06)
  clear hDm hi8 hsum h68 hb6 e06 h6 hT6 hS6 hWr hra hbase hT5 hb5 h5 hK5 hw1l hoa hga hna hba hpbl HAP HW
  simp only [hcells, List.getElem?_toArray, List.getElem?_cons_zero] at HB6
  go_wp2_with (refine wpList_load_mid rfl 165 _ rfl d1 1 rfl (sl.map U64) _ HS.out.1 Tryz.underlying165 rfl HS.out.2.1 ?_)
  obtain ⟨OA, hOA⟩ : ∃ OA, (sl.map U64).toArray = OA := ⟨_, rfl⟩
  have hnew := Lib.hid (show ∀ k x, sl[k]? = some x → OA[k]? = some (U64 x) from fun k x h => by rw [← hOA, List.getElem?_toArray, List.getElem?_map, h]; rfl)
  rw [hOA]
  clear hOA
  go_loopw [8, 84] (fun v i wr => ∃ k : Nat, k ≤ 8 ∧ i = .int .i64 k ∧ Own wr w6.heap.size v ((sl.take k).flatMap fun x => bytes32 x.toUInt32) ∧ Below w6.heap.size w6 wr) (fun _ i _ => 8 - (intOf i).toNat)
  case atStart => exact ⟨0, by omega, rfl, World.ownsRow_nil _ _ _ _, Below.refl _ _⟩
  case round =>
   obtain ⟨k, hk, rfl, hO, hB⟩ := hrel
   rcases Nat.lt_or_ge k 8 with hlt | hge
   ·obtain ⟨x, hx⟩ : ∃ x, sl[k]? = some x := ⟨_, List.getElem?_eq_getElem (by rw [HS.out.2.2.1]; exact hlt)⟩
    have hix := fun w => index_arr (t := 165) (q := .i64) Tryz.underlying165 Tryz.underlying131 (by kernel_rfl) hlt (hnew.out k x hx) w
    have hln : ((sl.take k).flatMap fun x => bytes32 x.toUInt32).length ≤ 64 := by
     rw [flat_len _ _ 4 (fun _ => rfl), List.length_take]; omega
    have HAp := Lib.hid (append32_any u8 x.toUInt32 _ wr w6.heap.size hO hB.size (by omega))
    have hsc := Lib.hid (show (sl.take (k + 1)).flatMap (fun x => bytes32 x.toUInt32) = (sl.take k).flatMap (fun x => bytes32 x.toUInt32) ++ bytes32 x.toUInt32 by rw [List.take_add_one, hx, List.flatMap_append]; simp)
    have hki : (k : Int) < 8 := by omega
    have hk0 : (0 : Int) ≤ k := by omega
    have Hr := Lib.hid (And.intro hO hB)
    clear hO hB hlt hk hx hln
    go_wp2_with (go_at_call 67; refine HAp.out.mono ?_; rintro e w7 ⟨v7, rfl, ho7, ht7, _⟩)
    go_roundw
    case rel =>
     refine ⟨k + 1, by omega, by go_num, by rw [hsc.out]; exact ho7, below_turn Hr.out.2 ht7 (fun t ht => (Hr.out.1.lt (g := t) (by simpa using ht)).1) Hr.out.2.size⟩
    case measure => simp [intOf]; omega
   ·obtain rfl : k = 8 := by omega
    have hq : ¬ ((8 : Int) < 8) := by omega
    rw [List.take_of_length_le (by rw [HS.out.2.2.1]; omega)] at hO
    have hfl : (sl.flatMap fun x => bytes32 x.toUInt32).length = 32 := by rw [flat_len _ _ 4 (fun _ => rfl), HS.out.2.2.1]
    have hfs : sumOf kind hs wait n = (sl.flatMap fun x => bytes32 x.toUInt32).take (hsize kind).toNat := by
     rw [HS.out.2.2.2]; unfold wordsOf bl; rw [HH.out.2.2]; rfl
    obtain ⟨sz, hsz, hs1, hs2⟩ : ∃ sz : Nat, hsize kind = sz ∧ 1 ≤ sz ∧ sz ≤ 32 := by
     obtain ⟨k1, k2⟩ := HH.out.1.kindOk
     have hb := HH.out.2.2
     have hcase : kind = 1 ∨ kind = 2 ∨ kind = 3 ∨ kind = 4 ∨ kind = 5 := by omega
     rcases hcase with rfl | rfl | rfl | rfl | rfl <;> first | exact ⟨20, rfl, by omega, by omega⟩ | exact ⟨28, rfl, by omega, by omega⟩ | exact ⟨32, rfl, by omega, by omega⟩ | exact ⟨48, rfl, by omega, by omega⟩ | exact ⟨64, rfl, by omega, by omega⟩ | (simp [hblock] at hb)
    rw [hsz, Int.toNat_natCast] at hfs
    have hrs : (sumOf kind hs wait n).length = sz := by rw [hfs, List.length_take, hfl]; omega
    generalize (sl.flatMap fun x => bytes32 x.toUInt32) = ol at *
    obtain ⟨g, c, rfl⟩ := hO.form (hO.ne_nil (by rw [hfl]; decide))
    rw [hfl] at hO ⊢
    have hcc := hO.blk.2.1
    have hci : (sz : Int) ≤ c := by omega
    have e0r := (hB.cell (p := ⟨d, 0, none⟩) (Nat.lt_of_lt_of_le hdl HB6.out.1.size)).trans HB6.out.2
    have Hr := Lib.hid (And.intro hO (And.intro hB (And.intro hfs hrs)))
    have HSz := Lib.hid hsz
    clear hO hB hfs hrs hsz hk hge hcc
    go_wp2_with (go_at_call 129; refine (size_any kind _).mono ?_; rintro e w' ⟨rfl, rfl⟩; rw [HSz.out])
    go_ret
    obtain ⟨hO, hB, hfs, hrs⟩ := Hr.out
    refine ⟨g, c, by rw [hrs]; rfl, ?_, HB6.out.1.trans (hB.mono HB6.out.1.size)⟩
    rw [hrs, hfs]
    exact (hO.front hs2).mono HB6.out.1.size
set_option maxHeartbeats 4000000 in
theorem sum128 (d : Nat) (kind : Int) (hs : List UInt64) (wait : List UInt8) (n : UInt64) (wv : Value) (w : World) (h : HashAt w d kind hs wait n wv) (hl : wait.length ≤ 70368744177664) (hK : KAt w) (hb : hblock kind = 128) :
  Calls Tryz.prog 105 #[.pointer (some ⟨d, 0, none⟩)] w fun e w' => ∃ g c, e = .returned (.slice (some ⟨g, 0, none⟩) (sumOf kind hs wait n).length c) ∧
   Own w' w.heap.size (.slice (some ⟨g, 0, none⟩) (sumOf kind hs wait n).length c) (sumOf kind hs wait n) ∧ Below w.heap.size w w' := by
 have c0 : w.cell? ⟨d, 0, none⟩ = some (.int .i64 kind) := h.blk.cell 0
 have c10 := (h.blk.cell 10).trans (hcells_get10 kind hs _ n h.len)
 have hdl := h.blk.lt
 have HC := Lib.hid (copy_any d kind hs wait n wv w.drew (h.below (Below.refl _ w).drew) (by omega) hK)
 have HBl := Lib.hid (block_any kind)
 rw [hb] at HBl
 have HH := Lib.hid (And.intro h (And.intro hK hb))
 clear h hK hb
 obtain ⟨L, hL⟩ : ∃ L, wait.length = L := ⟨_, rfl⟩
 rw [hL] at hl
 go_enter Tryz.func105, Tryz.ntmps105
 go_wp2_with fail
 go_region_held3 (fun w' => w'.cell? ⟨d, 0, none⟩ = some (.int .i64 kind)) (first | go_keep | (exact g0))
  (first
   | (go_at_call 134; refine HC.out.mono ?_; rintro e w1 ⟨d1, wv1, rfl, hd1, h1, hw1, hb1⟩; have hbel : Below w.heap.size w w1 := (Below.refl _ w).drew.trans hb1; have g0 := (hbel.cell (p := ⟨d, 0, none⟩) hdl).trans c0)
   | (go_at_call 132; refine (HBl.out _).mono ?_; rintro e w' ⟨rfl, rfl⟩))
 simp only [Exit.then]
 obtain ⟨A1, c1, rfl, _, _⟩ := h1.own.shape
 have h9 := (h1.blk.cell 9).trans (hcells_get9 kind hs _ n h1.len)
 rw [hL] at h9 h1 hw1
 replace c10 := (hbel.cell (p := ⟨d, 10, none⟩) hdl).trans c10
 have hdl1 : d < w1.heap.size := Nat.lt_of_lt_of_le hdl hbel.size
 have hd1l : d1 < w1.heap.size := h1.blk.lt
 have H1 := Lib.hid (And.intro hd1 (And.intro h1 (And.intro hw1 hbel)))
 have HL := Lib.hid hL
 clear hd1 h1 hw1 hb1 hbel hL HC c0 g0
 have hmkR : ∀ w : World, (Instr.makeSlice 32 (.int .i64 16) (.int .i64 16)).run Tryz.prog w = .ok (.slice (some ⟨w.heap.size, 0, none⟩) 16 16) (w.alloc (.cells (madeCells #[.int .u8 0] 16) 5)) := fun w => by
  have := Tryz.prog_make 16 (by omega) w
  rwa [show ((16 : Nat) : Int) = 16 from rfl] at this
 by_cases hz : (L + 1 + 16) % 128 = 0
 ·have hzi : (((L : Int) + 1 + 16) % 128 == 0) = true := by simp; omega
  have hpz : (128 - ((L : Int) + 1 + 16) % 128 + 1) = ((128 + 1 : Nat) : Int) := by omega
  have hmk : ∀ w : World, (Instr.makeSlice 32 (.int .i64 (128 - ((L : Int) + 1 + 16) % 128 + 1)) (.int .i64 (128 - ((L : Int) + 1 + 16) % 128 + 1))).run Tryz.prog w = .ok (.slice (some ⟨w.heap.size, 0, none⟩) 129 129) (w.alloc (.cells (madeCells #[.int .u8 0] 129) 5)) := fun w => by
   rw [hpz]; exact Tryz.prog_make 129 (by omega) w
  have cp := pad_cell w1 129 (by omega)
  have fp := (Blk.new w1 5 (madeCells #[.int .u8 0] 129)).frozen 0
  have HPM := Lib.hid (show padN 128 L = 1 by unfold padN; rw [if_pos (by simpa using hz)])
  clear hpz hz
  go_wp2_with fail
  have hP : Own ((w1.alloc (.cells ((madeCells #[.int .u8 0] 129).setIfInBounds 0 (.int .u8 128)) 5)).alloc (.cells (madeCells #[.int .u8 0] 16) 5)) w1.heap.size (.slice (some ⟨w1.heap.size, 0, none⟩) 1 129) (0x80 :: List.replicate (1 - 1) 0) := pad_own w1 1 129 (.cells (madeCells #[.int .u8 0] 16) 5) (by omega) (by omega) (by omega)
  have hLn : Own ((w1.alloc (.cells ((madeCells #[.int .u8 0] 129).setIfInBounds 0 (.int .u8 128)) 5)).alloc (.cells (madeCells #[.int .u8 0] 16) 5)) w1.heap.size (.slice (some ⟨w1.heap.size + 1, 0, none⟩) 16 16) (zs 16) := by
   have := (Own.made (w1.alloc (.cells ((madeCells #[.int .u8 0] 129).setIfInBounds 0 (.int .u8 128)) 5)) 16 (by decide)).mono (base' := w1.heap.size) (by simp)
   simpa using this
  have hb3 : Below w1.heap.size w1 ((w1.alloc (.cells ((madeCells #[.int .u8 0] 129).setIfInBounds 0 (.int .u8 128)) 5)).alloc (.cells (madeCells #[.int .u8 0] 16) 5)) := ((Below.refl _ _).alloc (Nat.le_refl _) _).alloc (by simp) _
  have hz3 : ((w1.alloc (.cells ((madeCells #[.int .u8 0] 129).setIfInBounds 0 (.int .u8 128)) 5)).alloc (.cells (madeCells #[.int .u8 0] 16) 5)).heap.size = w1.heap.size + 2 := by simp
  revert hP hLn hb3 hz3
  generalize (w1.alloc (.cells ((madeCells #[.int .u8 0] 129).setIfInBounds 0 (.int .u8 128)) 5)).alloc (.cells (madeCells #[.int .u8 0] 16) 5) = w3
  intro hP hLn hb3 hz3
  have e10 := (hb3.cell (p := ⟨d, 10, none⟩) hdl1).trans c10
  have e0 := (hb3.cell (p := ⟨d, 0, none⟩) hdl1).trans ((H1.out.2.2.2.cell (p := ⟨d, 0, none⟩) hdl).trans (HH.out.1.blk.cell 0))
  have hput := put64_any w1.heap.size (w1.heap.size + 1) 16 16 8 8 8 (zs 16) (n <<< 3) w3.drew hLn (by show w1.heap.size ≤ w3.heap.size; omega) (by rw [zs_len]; decide) (by omega) (by omega)
  have hPut := Lib.hid hput
  have H3 := Lib.hid (And.intro hP (And.intro hLn (And.intro hb3 (And.intro hz3 e0))))
  clear hput hP hLn hb3 hz3 c10 h9 hmk hzi cp fp e0
  have hwr : IntKind.i64.wrap 8 = 8 := by decide
  have hwr2 : IntKind.i64.wrap 0 = 0 := by decide
  go_region_held3 (fun w' => w'.cell? ⟨d, 10, none⟩ = some (U64 n)) (first | go_keep | (exact g0)) ((go_at_call 135; refine hPut.out.mono ?_; rintro e w4 ⟨rfl, ho4, ht4⟩; have g0 := cell_turn (show w3.drew.cell? ⟨d, 10, none⟩ = _ from e10) ht4 (by simp; omega)))
  simp only [Exit.then]
  have e10' := cell_turn (show w3.drew.cell? ⟨d, 10, none⟩ = _ from e10) ht4 (by simp; omega)
  have hput2 := put64_any w1.heap.size (w1.heap.size + 1) 16 16 0 16 16 _ (n >>> 61) w4.drew ho4 (by show w1.heap.size ≤ w4.heap.size; have := ht4.size; have : w3.heap.size ≤ w4.heap.size := this; have := H3.out.2.2.2.1; omega) (by rw [length_splice _ _ _ (by simp [bytes64, zs_len]), zs_len]; decide) (by omega) (by omega)
  have hPut2 := Lib.hid hput2
  clear hput2
  have H4a := Lib.hid (And.intro ho4 ht4)
  clear ho4 ht4
  go_wp2_with fail
  go_region_held3 (fun w' => w'.cell? ⟨d, 10, none⟩ = some (U64 n)) (first | go_keep | (exact g1)) ((go_at_call 135; refine hPut2.out.mono ?_; rintro e w4' ⟨rfl, ho4', ht4'⟩; have g1 := cell_turn (show w4.drew.cell? ⟨d, 10, none⟩ = _ from g0) ht4' (by simp; omega)))
  simp only [Exit.then]
  have htA : Turn [w1.heap.size + 1] w3 w4' := ((((Turn.refl [w1.heap.size + 1] w3).drew).trans H4a.out.2 (fun x hx => .inl hx)).drew).trans ht4' (fun x hx => .inl hx)
  have hlen : Own w4' w1.heap.size (.slice (some ⟨w1.heap.size + 1, 0, none⟩) 16 16) (lenB 128 n) := by
   have e : splice (splice (zs 16) 8 (bytes64 (n <<< 3))) 0 (bytes64 (n >>> 61)) = lenB 128 n := by simp [splice, zs, bytes64, lenB]
   rw [← e]; exact ho4'
  clear ho4' ht4'
  obtain ⟨hP, hLn, hb3, hz3, e0⟩ := H3.out
  have hP4 := hP.turn htA (fun g hg hm => by simp [Value.ownBlock] at hg hm; omega)
  have hb4 : Below w1.heap.size w1 w4' := below_turn hb3 htA (by simp) (by omega)
  have e0' := cell_turn e0 htA (by simp; omega)
  have hz4 : w1.heap.size + 2 ≤ w4'.heap.size := by have := htA.size; omega
  have h5 := H1.out.2.1.below hb4
  have hK5 := (HH.out.2.1.below H1.out.2.2.2).below hb4
  have hrl : Rd w4' (some ⟨w1.heap.size + 1, 0, none⟩) 16 16 (lenB 128 n) := by
   obtain ⟨A, c, he, hr, _⟩ := hlen.shape
   cases he; exact hr
  have hll : (lenB 128 n).length = 16 := rfl
  have hpl : (0x80 :: List.replicate (1 - 1) (0 : UInt8)).length = 1 := by simp
  have hpb : (0x80 :: List.replicate (1 - 1) (0 : UInt8)) ++ lenB 128 n = padB 128 L n := by unfold padB; rw [HPM.out]
  have HW := Lib.hid (And.intro h5 (And.intro hK5 (And.intro hb4 (And.intro hz4 (And.intro hpl hll)))))
  have HAP := Lib.hid (And.intro hP4 (And.intro hrl hpb))
  have h56 : ((128 : Int) == 64) = false := rfl
  clear h5 hK5 hb4 hz4 hpl hll hP4 hrl hpb hlen hP hLn hb3 hz3 e0 H3 htA hPut
  go_wp2_with (first
   | (at_builtin; refine wp_app rfl _ _ rfl w1.heap.size _ (0x80 :: List.replicate (1 - 1) (0 : UInt8)) rfl HAP.out.1 (some ⟨w1.heap.size + 1, 0, none⟩) 16 16 (lenB 128 n) rfl HAP.out.2.1 (by rw [HW.out.2.2.2.2.1, HW.out.2.2.2.2.2]; omega) (by have := HW.out.2.2.2.1; omega) ?_; intro va w5 hoa hga hna hba; rw [HAP.out.2.2] at hoa)
   )
  have hT5 : Turn [w1.heap.size] w4' w5 := Turn.of_grown (v := .slice (some ⟨w1.heap.size, 0, none⟩) 1 129) hga
  have hb5 : Below w1.heap.size w1 w5 := below_turn HW.out.2.2.1 hT5 (by simp) (by have := HW.out.2.2.2.1; omega)
  have h5 := H1.out.2.1.below hb5
  have hK5 := (HH.out.2.1.below H1.out.2.2.2).below hb5
  have hw1l : ∀ g, (Value.slice A1 L c1).ownBlock = some g → w.heap.size ≤ g ∧ g < w1.heap.size := fun g hg => ⟨H1.out.2.2.1 g hg, (H1.out.2.1.own.lt hg).2⟩
  obtain ⟨Aa, ca, rfl, hra, hbase⟩ := hoa.shape
  have hpbl : (padB 128 L n).length ≤ 1000 := by rw [← HAP.out.2.2, List.length_append, HW.out.2.2.2.2.1, HW.out.2.2.2.2.2]; omega
  have hWr := write_any d1 kind hs wait n (.slice A1 L c1) Aa _ ca (padB 128 L n) w5 h5 hra (by rw [HL.out]; omega) hK5
   (fun ad had => by
    have h1 := hbase ad had
    refine ⟨by omega, fun hw => ?_⟩
    have := hw1l _ hw
    omega)
  refine hWr.mono ?_
  rintro e w6 ⟨rfl, ⟨wv6, h6, _⟩, hT6⟩
  have hS6 : ∀ t ∈ d1 :: (Value.slice A1 L c1).ownBlock.toList, w.heap.size ≤ t := by
   intro t ht
   rcases List.mem_cons.1 ht with rfl | ht
   ·exact H1.out.1
   ·exact (hw1l t (by simpa using ht)).1
  have hb6 : Below w.heap.size w w6 := below_turn ((H1.out.2.2.2).trans (hb5.mono H1.out.2.2.2.size)) hT6 hS6 (Nat.le_trans H1.out.2.2.2.size hb5.size)
  have e06 := (hb6.cell (p := ⟨d, 0, none⟩) hdl).trans (HH.out.1.blk.cell 0)
  have hDm : w6.rangeAt d1 1 ((absorb kind hs (wait ++ padB 128 L n)).map U64) := fun j v hv => by
   rw [List.getElem?_map] at hv
   obtain ⟨x, hx, rfl⟩ := Option.map_eq_some_iff.1 hv
   exact (h6.blk.cell (1 + j)).trans (hcells_get kind _ _ _ j x hx)
  have h68 := h6.len
  have hsum : sumOf kind hs wait n = (wordsOf kind (absorb kind hs (wait ++ padB 128 L n))).take (hsize kind).toNat := by
   unfold sumOf bl; rw [HH.out.2.2, HL.out]; rfl
  generalize absorb kind hs (wait ++ padB 128 L n) = sl at *
  have hi8 : (Tryz.prog.info? 165).map (·.size) = some (sl.map U64).length := by rw [List.length_map, h68]; kernel_rfl
  have HS := Lib.hid (And.intro hDm (And.intro hi8 (And.intro h68 hsum)))
  have HB6 := Lib.hid (And.intro hb6 e06)
  clear hDm hi8 hsum h68 hb6 e06 h6 hT6 hS6 hWr hra hbase hT5 hb5 h5 hK5 hw1l hoa hga hna hba hpbl HAP HW
  simp only [hcells, List.getElem?_toArray, List.getElem?_cons_zero] at HB6
  go_wp2_with (refine wpList_load_mid rfl 165 _ rfl d1 1 rfl (sl.map U64) _ HS.out.1 Tryz.underlying165 rfl HS.out.2.1 ?_)
  obtain ⟨OA, hOA⟩ : ∃ OA, (sl.map U64).toArray = OA := ⟨_, rfl⟩
  have hnew := Lib.hid (show ∀ k x, sl[k]? = some x → OA[k]? = some (U64 x) from fun k x h => by rw [← hOA, List.getElem?_toArray, List.getElem?_map, h]; rfl)
  rw [hOA]
  clear hOA
  go_loopw [8, 84] (fun v i wr => ∃ k : Nat, k ≤ 8 ∧ i = .int .i64 k ∧ Own wr w6.heap.size v ((sl.take k).flatMap fun x => bytes64 x) ∧ Below w6.heap.size w6 wr) (fun _ i _ => 8 - (intOf i).toNat)
  case atStart => exact ⟨0, by omega, rfl, World.ownsRow_nil _ _ _ _, Below.refl _ _⟩
  case round =>
   obtain ⟨k, hk, rfl, hO, hB⟩ := hrel
   rcases Nat.lt_or_ge k 8 with hlt | hge
   ·obtain ⟨x, hx⟩ : ∃ x, sl[k]? = some x := ⟨_, List.getElem?_eq_getElem (by rw [HS.out.2.2.1]; exact hlt)⟩
    have hix := fun w => index_arr (t := 165) (q := .i64) Tryz.underlying165 Tryz.underlying131 (by kernel_rfl) hlt (hnew.out k x hx) w
    have hln : ((sl.take k).flatMap fun x => bytes64 x).length ≤ 64 := by
     rw [flat_len _ _ 8 (fun _ => rfl), List.length_take]; omega
    have HAp := Lib.hid (append64_any u8 x _ wr w6.heap.size hO hB.size (by omega))
    have hsc := Lib.hid (show (sl.take (k + 1)).flatMap (fun x => bytes64 x) = (sl.take k).flatMap (fun x => bytes64 x) ++ bytes64 x by rw [List.take_add_one, hx, List.flatMap_append]; simp)
    have hki : (k : Int) < 8 := by omega
    have hk0 : (0 : Int) ≤ k := by omega
    have Hr := Lib.hid (And.intro hO hB)
    clear hO hB hlt hk hx hln
    go_wp2_with (go_at_call 87; refine HAp.out.mono ?_; rintro e w7 ⟨v7, rfl, ho7, ht7, _⟩)
    go_roundw
    case rel =>
     refine ⟨k + 1, by omega, by go_num, by rw [hsc.out]; exact ho7, below_turn Hr.out.2 ht7 (fun t ht => (Hr.out.1.lt (g := t) (by simpa using ht)).1) Hr.out.2.size⟩
    case measure => simp [intOf]; omega
   ·obtain rfl : k = 8 := by omega
    have hq : ¬ ((8 : Int) < 8) := by omega
    rw [List.take_of_length_le (by rw [HS.out.2.2.1]; omega)] at hO
    have hfl : (sl.flatMap fun x => bytes64 x).length = 64 := by rw [flat_len _ _ 8 (fun _ => rfl), HS.out.2.2.1]
    have hfs : sumOf kind hs wait n = (sl.flatMap fun x => bytes64 x).take (hsize kind).toNat := by
     rw [HS.out.2.2.2]; unfold wordsOf bl; rw [HH.out.2.2]; rfl
    obtain ⟨sz, hsz, hs1, hs2⟩ : ∃ sz : Nat, hsize kind = sz ∧ 1 ≤ sz ∧ sz ≤ 64 := by
     obtain ⟨k1, k2⟩ := HH.out.1.kindOk
     have hb := HH.out.2.2
     have hcase : kind = 1 ∨ kind = 2 ∨ kind = 3 ∨ kind = 4 ∨ kind = 5 := by omega
     rcases hcase with rfl | rfl | rfl | rfl | rfl <;> first | exact ⟨20, rfl, by omega, by omega⟩ | exact ⟨28, rfl, by omega, by omega⟩ | exact ⟨32, rfl, by omega, by omega⟩ | exact ⟨48, rfl, by omega, by omega⟩ | exact ⟨64, rfl, by omega, by omega⟩ | (simp [hblock] at hb)
    rw [hsz, Int.toNat_natCast] at hfs
    have hrs : (sumOf kind hs wait n).length = sz := by rw [hfs, List.length_take, hfl]; omega
    generalize (sl.flatMap fun x => bytes64 x) = ol at *
    obtain ⟨g, c, rfl⟩ := hO.form (hO.ne_nil (by rw [hfl]; decide))
    rw [hfl] at hO ⊢
    have hcc := hO.blk.2.1
    have hci : (sz : Int) ≤ c := by omega
    have e0r := (hB.cell (p := ⟨d, 0, none⟩) (Nat.lt_of_lt_of_le hdl HB6.out.1.size)).trans HB6.out.2
    have Hr := Lib.hid (And.intro hO (And.intro hB (And.intro hfs hrs)))
    have HSz := Lib.hid hsz
    clear hO hB hfs hrs hsz hk hge hcc
    go_wp2_with (go_at_call 129; refine (size_any kind _).mono ?_; rintro e w' ⟨rfl, rfl⟩; rw [HSz.out])
    go_ret
    obtain ⟨hO, hB, hfs, hrs⟩ := Hr.out
    refine ⟨g, c, by rw [hrs]; rfl, ?_, HB6.out.1.trans (hB.mono HB6.out.1.size)⟩
    rw [hrs, hfs]
    exact (hO.front hs2).mono HB6.out.1.size
 ·have hzi : (((L : Int) + 1 + 16) % 128 == 0) = false := by simp; omega
  obtain ⟨PM, hpn⟩ : ∃ pn : Nat, 128 - (L + 1 + 16) % 128 + 1 = pn := ⟨_, rfl⟩
  have hpz : (128 - ((L : Int) + 1 + 16) % 128 + 1) = (PM : Int) := by omega
  have hmk : ∀ w : World, (Instr.makeSlice 32 (.int .i64 (128 - ((L : Int) + 1 + 16) % 128 + 1)) (.int .i64 (128 - ((L : Int) + 1 + 16) % 128 + 1))).run Tryz.prog w = .ok (.slice (some ⟨w.heap.size, 0, none⟩) PM PM) (w.alloc (.cells (madeCells #[.int .u8 0] PM) 5)) := fun w => by
   rw [hpz]; exact Tryz.prog_make PM (by omega) w
  have hp1 : (1 : Int) ≤ PM := by omega
  have hp2 : PM ≤ 129 := by omega
  have cp := pad_cell w1 PM (by omega)
  have fp := (Blk.new w1 5 (madeCells #[.int .u8 0] PM)).frozen 0
  have HPM := Lib.hid (show padN 128 L = PM by unfold padN; rw [if_neg (by simpa using hz)]; exact hpn)
  clear hpn hpz hz
  go_wp2_with fail
  have hP : Own ((w1.alloc (.cells ((madeCells #[.int .u8 0] PM).setIfInBounds 0 (.int .u8 128)) 5)).alloc (.cells (madeCells #[.int .u8 0] 16) 5)) w1.heap.size (.slice (some ⟨w1.heap.size, 0, none⟩) PM PM) (0x80 :: List.replicate (PM - 1) 0) := pad_own w1 PM PM (.cells (madeCells #[.int .u8 0] 16) 5) (by omega) (by omega) (by omega)
  have hLn : Own ((w1.alloc (.cells ((madeCells #[.int .u8 0] PM).setIfInBounds 0 (.int .u8 128)) 5)).alloc (.cells (madeCells #[.int .u8 0] 16) 5)) w1.heap.size (.slice (some ⟨w1.heap.size + 1, 0, none⟩) 16 16) (zs 16) := by
   have := (Own.made (w1.alloc (.cells ((madeCells #[.int .u8 0] PM).setIfInBounds 0 (.int .u8 128)) 5)) 16 (by decide)).mono (base' := w1.heap.size) (by simp)
   simpa using this
  have hb3 : Below w1.heap.size w1 ((w1.alloc (.cells ((madeCells #[.int .u8 0] PM).setIfInBounds 0 (.int .u8 128)) 5)).alloc (.cells (madeCells #[.int .u8 0] 16) 5)) := ((Below.refl _ _).alloc (Nat.le_refl _) _).alloc (by simp) _
  have hz3 : ((w1.alloc (.cells ((madeCells #[.int .u8 0] PM).setIfInBounds 0 (.int .u8 128)) 5)).alloc (.cells (madeCells #[.int .u8 0] 16) 5)).heap.size = w1.heap.size + 2 := by simp
  revert hP hLn hb3 hz3
  generalize (w1.alloc (.cells ((madeCells #[.int .u8 0] PM).setIfInBounds 0 (.int .u8 128)) 5)).alloc (.cells (madeCells #[.int .u8 0] 16) 5) = w3
  intro hP hLn hb3 hz3
  have e10 := (hb3.cell (p := ⟨d, 10, none⟩) hdl1).trans c10
  have e0 := (hb3.cell (p := ⟨d, 0, none⟩) hdl1).trans ((H1.out.2.2.2.cell (p := ⟨d, 0, none⟩) hdl).trans (HH.out.1.blk.cell 0))
  have hput := put64_any w1.heap.size (w1.heap.size + 1) 16 16 8 8 8 (zs 16) (n <<< 3) w3.drew hLn (by show w1.heap.size ≤ w3.heap.size; omega) (by rw [zs_len]; decide) (by omega) (by omega)
  have hPut := Lib.hid hput
  have H3 := Lib.hid (And.intro hP (And.intro hLn (And.intro hb3 (And.intro hz3 e0))))
  clear hput hP hLn hb3 hz3 c10 h9 hmk hzi cp fp e0
  have hwr : IntKind.i64.wrap 8 = 8 := by decide
  have hwr2 : IntKind.i64.wrap 0 = 0 := by decide
  go_region_held3 (fun w' => w'.cell? ⟨d, 10, none⟩ = some (U64 n)) (first | go_keep | (exact g0)) ((go_at_call 135; refine hPut.out.mono ?_; rintro e w4 ⟨rfl, ho4, ht4⟩; have g0 := cell_turn (show w3.drew.cell? ⟨d, 10, none⟩ = _ from e10) ht4 (by simp; omega)))
  simp only [Exit.then]
  have e10' := cell_turn (show w3.drew.cell? ⟨d, 10, none⟩ = _ from e10) ht4 (by simp; omega)
  have hput2 := put64_any w1.heap.size (w1.heap.size + 1) 16 16 0 16 16 _ (n >>> 61) w4.drew ho4 (by show w1.heap.size ≤ w4.heap.size; have := ht4.size; have : w3.heap.size ≤ w4.heap.size := this; have := H3.out.2.2.2.1; omega) (by rw [length_splice _ _ _ (by simp [bytes64, zs_len]), zs_len]; decide) (by omega) (by omega)
  have hPut2 := Lib.hid hput2
  clear hput2
  have H4a := Lib.hid (And.intro ho4 ht4)
  clear ho4 ht4
  go_wp2_with fail
  go_region_held3 (fun w' => w'.cell? ⟨d, 10, none⟩ = some (U64 n)) (first | go_keep | (exact g1)) ((go_at_call 135; refine hPut2.out.mono ?_; rintro e w4' ⟨rfl, ho4', ht4'⟩; have g1 := cell_turn (show w4.drew.cell? ⟨d, 10, none⟩ = _ from g0) ht4' (by simp; omega)))
  simp only [Exit.then]
  have htA : Turn [w1.heap.size + 1] w3 w4' := ((((Turn.refl [w1.heap.size + 1] w3).drew).trans H4a.out.2 (fun x hx => .inl hx)).drew).trans ht4' (fun x hx => .inl hx)
  have hlen : Own w4' w1.heap.size (.slice (some ⟨w1.heap.size + 1, 0, none⟩) 16 16) (lenB 128 n) := by
   have e : splice (splice (zs 16) 8 (bytes64 (n <<< 3))) 0 (bytes64 (n >>> 61)) = lenB 128 n := by simp [splice, zs, bytes64, lenB]
   rw [← e]; exact ho4'
  clear ho4' ht4'
  obtain ⟨hP, hLn, hb3, hz3, e0⟩ := H3.out
  have hP4 := hP.turn htA (fun g hg hm => by simp [Value.ownBlock] at hg hm; omega)
  have hb4 : Below w1.heap.size w1 w4' := below_turn hb3 htA (by simp) (by omega)
  have e0' := cell_turn e0 htA (by simp; omega)
  have hz4 : w1.heap.size + 2 ≤ w4'.heap.size := by have := htA.size; omega
  have h5 := H1.out.2.1.below hb4
  have hK5 := (HH.out.2.1.below H1.out.2.2.2).below hb4
  have hrl : Rd w4' (some ⟨w1.heap.size + 1, 0, none⟩) 16 16 (lenB 128 n) := by
   obtain ⟨A, c, he, hr, _⟩ := hlen.shape
   cases he; exact hr
  have hll : (lenB 128 n).length = 16 := rfl
  have hpl : (0x80 :: List.replicate (PM - 1) (0 : UInt8)).length = PM := by simp; omega
  have hpb : (0x80 :: List.replicate (PM - 1) (0 : UInt8)) ++ lenB 128 n = padB 128 L n := by unfold padB; rw [HPM.out]
  have HW := Lib.hid (And.intro h5 (And.intro hK5 (And.intro hb4 (And.intro hz4 (And.intro hpl hll)))))
  have HAP := Lib.hid (And.intro hP4 (And.intro hrl hpb))
  have h56 : ((128 : Int) == 64) = false := rfl
  clear h5 hK5 hb4 hz4 hpl hll hP4 hrl hpb hlen hP hLn hb3 hz3 e0 H3 htA hPut
  go_wp2_with (first
   | (at_builtin; refine wp_app rfl _ _ rfl w1.heap.size _ (0x80 :: List.replicate (PM - 1) (0 : UInt8)) rfl HAP.out.1 (some ⟨w1.heap.size + 1, 0, none⟩) 16 16 (lenB 128 n) rfl HAP.out.2.1 (by rw [HW.out.2.2.2.2.1, HW.out.2.2.2.2.2]; omega) (by have := HW.out.2.2.2.1; omega) ?_; intro va w5 hoa hga hna hba; rw [HAP.out.2.2] at hoa)
   )
  have hT5 : Turn [w1.heap.size] w4' w5 := Turn.of_grown (v := .slice (some ⟨w1.heap.size, 0, none⟩) PM PM) hga
  have hb5 : Below w1.heap.size w1 w5 := below_turn HW.out.2.2.1 hT5 (by simp) (by have := HW.out.2.2.2.1; omega)
  have h5 := H1.out.2.1.below hb5
  have hK5 := (HH.out.2.1.below H1.out.2.2.2).below hb5
  have hw1l : ∀ g, (Value.slice A1 L c1).ownBlock = some g → w.heap.size ≤ g ∧ g < w1.heap.size := fun g hg => ⟨H1.out.2.2.1 g hg, (H1.out.2.1.own.lt hg).2⟩
  obtain ⟨Aa, ca, rfl, hra, hbase⟩ := hoa.shape
  have hpbl : (padB 128 L n).length ≤ 1000 := by rw [← HAP.out.2.2, List.length_append, HW.out.2.2.2.2.1, HW.out.2.2.2.2.2]; omega
  have hWr := write_any d1 kind hs wait n (.slice A1 L c1) Aa _ ca (padB 128 L n) w5 h5 hra (by rw [HL.out]; omega) hK5
   (fun ad had => by
    have h1 := hbase ad had
    refine ⟨by omega, fun hw => ?_⟩
    have := hw1l _ hw
    omega)
  refine hWr.mono ?_
  rintro e w6 ⟨rfl, ⟨wv6, h6, _⟩, hT6⟩
  have hS6 : ∀ t ∈ d1 :: (Value.slice A1 L c1).ownBlock.toList, w.heap.size ≤ t := by
   intro t ht
   rcases List.mem_cons.1 ht with rfl | ht
   ·exact H1.out.1
   ·exact (hw1l t (by simpa using ht)).1
  have hb6 : Below w.heap.size w w6 := below_turn ((H1.out.2.2.2).trans (hb5.mono H1.out.2.2.2.size)) hT6 hS6 (Nat.le_trans H1.out.2.2.2.size hb5.size)
  have e06 := (hb6.cell (p := ⟨d, 0, none⟩) hdl).trans (HH.out.1.blk.cell 0)
  have hDm : w6.rangeAt d1 1 ((absorb kind hs (wait ++ padB 128 L n)).map U64) := fun j v hv => by
   rw [List.getElem?_map] at hv
   obtain ⟨x, hx, rfl⟩ := Option.map_eq_some_iff.1 hv
   exact (h6.blk.cell (1 + j)).trans (hcells_get kind _ _ _ j x hx)
  have h68 := h6.len
  have hsum : sumOf kind hs wait n = (wordsOf kind (absorb kind hs (wait ++ padB 128 L n))).take (hsize kind).toNat := by
   unfold sumOf bl; rw [HH.out.2.2, HL.out]; rfl
  generalize absorb kind hs (wait ++ padB 128 L n) = sl at *
  have hi8 : (Tryz.prog.info? 165).map (·.size) = some (sl.map U64).length := by rw [List.length_map, h68]; kernel_rfl
  have HS := Lib.hid (And.intro hDm (And.intro hi8 (And.intro h68 hsum)))
  have HB6 := Lib.hid (And.intro hb6 e06)
  clear hDm hi8 hsum h68 hb6 e06 h6 hT6 hS6 hWr hra hbase hT5 hb5 h5 hK5 hw1l hoa hga hna hba hpbl HAP HW
  simp only [hcells, List.getElem?_toArray, List.getElem?_cons_zero] at HB6
  go_wp2_with (refine wpList_load_mid rfl 165 _ rfl d1 1 rfl (sl.map U64) _ HS.out.1 Tryz.underlying165 rfl HS.out.2.1 ?_)
  obtain ⟨OA, hOA⟩ : ∃ OA, (sl.map U64).toArray = OA := ⟨_, rfl⟩
  have hnew := Lib.hid (show ∀ k x, sl[k]? = some x → OA[k]? = some (U64 x) from fun k x h => by rw [← hOA, List.getElem?_toArray, List.getElem?_map, h]; rfl)
  rw [hOA]
  clear hOA
  go_loopw [8, 84] (fun v i wr => ∃ k : Nat, k ≤ 8 ∧ i = .int .i64 k ∧ Own wr w6.heap.size v ((sl.take k).flatMap fun x => bytes64 x) ∧ Below w6.heap.size w6 wr) (fun _ i _ => 8 - (intOf i).toNat)
  case atStart => exact ⟨0, by omega, rfl, World.ownsRow_nil _ _ _ _, Below.refl _ _⟩
  case round =>
   obtain ⟨k, hk, rfl, hO, hB⟩ := hrel
   rcases Nat.lt_or_ge k 8 with hlt | hge
   ·obtain ⟨x, hx⟩ : ∃ x, sl[k]? = some x := ⟨_, List.getElem?_eq_getElem (by rw [HS.out.2.2.1]; exact hlt)⟩
    have hix := fun w => index_arr (t := 165) (q := .i64) Tryz.underlying165 Tryz.underlying131 (by kernel_rfl) hlt (hnew.out k x hx) w
    have hln : ((sl.take k).flatMap fun x => bytes64 x).length ≤ 64 := by
     rw [flat_len _ _ 8 (fun _ => rfl), List.length_take]; omega
    have HAp := Lib.hid (append64_any u8 x _ wr w6.heap.size hO hB.size (by omega))
    have hsc := Lib.hid (show (sl.take (k + 1)).flatMap (fun x => bytes64 x) = (sl.take k).flatMap (fun x => bytes64 x) ++ bytes64 x by rw [List.take_add_one, hx, List.flatMap_append]; simp)
    have hki : (k : Int) < 8 := by omega
    have hk0 : (0 : Int) ≤ k := by omega
    have Hr := Lib.hid (And.intro hO hB)
    clear hO hB hlt hk hx hln
    go_wp2_with (go_at_call 87; refine HAp.out.mono ?_; rintro e w7 ⟨v7, rfl, ho7, ht7, _⟩)
    go_roundw
    case rel =>
     refine ⟨k + 1, by omega, by go_num, by rw [hsc.out]; exact ho7, below_turn Hr.out.2 ht7 (fun t ht => (Hr.out.1.lt (g := t) (by simpa using ht)).1) Hr.out.2.size⟩
    case measure => simp [intOf]; omega
   ·obtain rfl : k = 8 := by omega
    have hq : ¬ ((8 : Int) < 8) := by omega
    rw [List.take_of_length_le (by rw [HS.out.2.2.1]; omega)] at hO
    have hfl : (sl.flatMap fun x => bytes64 x).length = 64 := by rw [flat_len _ _ 8 (fun _ => rfl), HS.out.2.2.1]
    have hfs : sumOf kind hs wait n = (sl.flatMap fun x => bytes64 x).take (hsize kind).toNat := by
     rw [HS.out.2.2.2]; unfold wordsOf bl; rw [HH.out.2.2]; rfl
    obtain ⟨sz, hsz, hs1, hs2⟩ : ∃ sz : Nat, hsize kind = sz ∧ 1 ≤ sz ∧ sz ≤ 64 := by
     obtain ⟨k1, k2⟩ := HH.out.1.kindOk
     have hb := HH.out.2.2
     have hcase : kind = 1 ∨ kind = 2 ∨ kind = 3 ∨ kind = 4 ∨ kind = 5 := by omega
     rcases hcase with rfl | rfl | rfl | rfl | rfl <;> first | exact ⟨20, rfl, by omega, by omega⟩ | exact ⟨28, rfl, by omega, by omega⟩ | exact ⟨32, rfl, by omega, by omega⟩ | exact ⟨48, rfl, by omega, by omega⟩ | exact ⟨64, rfl, by omega, by omega⟩ | (simp [hblock] at hb)
    rw [hsz, Int.toNat_natCast] at hfs
    have hrs : (sumOf kind hs wait n).length = sz := by rw [hfs, List.length_take, hfl]; omega
    generalize (sl.flatMap fun x => bytes64 x) = ol at *
    obtain ⟨g, c, rfl⟩ := hO.form (hO.ne_nil (by rw [hfl]; decide))
    rw [hfl] at hO ⊢
    have hcc := hO.blk.2.1
    have hci : (sz : Int) ≤ c := by omega
    have e0r := (hB.cell (p := ⟨d, 0, none⟩) (Nat.lt_of_lt_of_le hdl HB6.out.1.size)).trans HB6.out.2
    have Hr := Lib.hid (And.intro hO (And.intro hB (And.intro hfs hrs)))
    have HSz := Lib.hid hsz
    clear hO hB hfs hrs hsz hk hge hcc
    go_wp2_with (go_at_call 129; refine (size_any kind _).mono ?_; rintro e w' ⟨rfl, rfl⟩; rw [HSz.out])
    go_ret
    obtain ⟨hO, hB, hfs, hrs⟩ := Hr.out
    refine ⟨g, c, by rw [hrs]; rfl, ?_, HB6.out.1.trans (hB.mono HB6.out.1.size)⟩
    rw [hrs, hfs]
    exact (hO.front hs2).mono HB6.out.1.size
theorem rest_len (kind : Int) (l : List UInt8) (hk : 1 ≤ kind ∧ kind ≤ 5) : (rest kind l).length < 128 := by
 unfold rest
 have hb : 64 ≤ bl kind ∧ bl kind ≤ 128 := by rcases bl_cases kind hk with ⟨_, h⟩ | ⟨_, h⟩ <;> omega
 rw [List.length_drop]
 have h1 := Nat.mod_lt l.length (y := bl kind) (by omega)
 have h2 := Nat.div_add_mod l.length (bl kind)
 rw [Nat.mul_comm] at h2
 omega
theorem sum_any (d : Nat) (kind : Int) (hs : List UInt64) (wait : List UInt8) (n : UInt64) (wv : Value) (w : World) (h : HashAt w d kind hs wait n wv) (hl : wait.length ≤ 70368744177664) (hK : KAt w) :
  Calls Tryz.prog 105 #[.pointer (some ⟨d, 0, none⟩)] w fun e w' => ∃ g c, e = .returned (.slice (some ⟨g, 0, none⟩) (sumOf kind hs wait n).length c) ∧
   Own w' w.heap.size (.slice (some ⟨g, 0, none⟩) (sumOf kind hs wait n).length c) (sumOf kind hs wait n) ∧ Below w.heap.size w w' := by
 rcases bl_cases kind h.kindOk with ⟨hb, _⟩ | ⟨hb, _⟩
 ·exact sum64 d kind hs wait n wv w h hl hK hb
 ·exact sum128 d kind hs wait n wv w h hl hK hb
structure HSt where
 (hs : List UInt64) (wait : List UInt8) (n : UInt64)
def HSt.start (kind : Int) : HSt := ⟨startW kind, [], 0⟩
def HSt.write (kind : Int) (s : HSt) (l : List UInt8) : HSt := ⟨absorb kind s.hs (s.wait ++ l), rest kind (s.wait ++ l), s.n + UInt64.ofNat l.length⟩
def HSt.sum (kind : Int) (s : HSt) : List UInt8 := sumOf kind s.hs s.wait s.n
def writes (kind : Int) (ps : List (List UInt8)) : HSt := ps.foldl (HSt.write kind) (HSt.start kind)
theorem writes_snoc (kind : Int) (ps : List (List UInt8)) (p : List UInt8) : writes kind (ps ++ [p]) = (writes kind ps).write kind p := by simp [writes]
theorem writes_wait (kind : Int) (hk : 1 ≤ kind ∧ kind ≤ 5) (ps : List (List UInt8)) : (writes kind ps).wait.length < 128 := by
 rcases List.eq_nil_or_concat ps with rfl | ⟨q, p, rfl⟩
 ·simp [writes, HSt.start]
 ·rw [List.concat_eq_append, writes_snoc]; exact rest_len kind _ hk
def PartsAt (w : World) (A : Option Addr) (m c : Nat) (ls : List (List UInt8)) : Prop :=
 m = ls.length ∧ m ≤ c ∧ c ≤ maxLen ∧ (0 < m → ∃ b off, A = some ⟨b, off, none⟩ ∧ b < w.heap.size ∧
  ∀ (i : Nat) (l : List UInt8), ls[i]? = some l → ∃ A' m' c', w.cell? ⟨b, off + i, none⟩ = some (.slice A' m' c') ∧ Rd w A' m' c' l)
set_option maxHeartbeats 1000000 in
theorem of_any (kind : Int) (hk : 1 ≤ kind ∧ kind ≤ 5) (A : Option Addr) (m c : Nat) (ls : List (List UInt8)) (w : World) (hp : PartsAt w A m c ls) (hl : ∀ l ∈ ls, l.length ≤ 140737488355000) (hK : KAt w) :
  Calls Tryz.prog 88 #[.int .i64 kind, .slice A m c] w fun e w' => ∃ g c, e = .returned (.slice (some ⟨g, 0, none⟩) ((writes kind ls).sum kind).length c) ∧
   Own w' w.heap.size (.slice (some ⟨g, 0, none⟩) ((writes kind ls).sum kind).length c) ((writes kind ls).sum kind) ∧ Below w.heap.size w w' := by
 have HN := Lib.hid (hnew_any kind w hk hK)
 have HP := Lib.hid (And.intro hp (And.intro hl hK))
 have hm := hp.1
 have hmc := hp.2.1
 have hcm := hp.2.2.1
 unfold maxLen at hcm
 have Hk := Lib.hid hk
 have Hm := Lib.hid hm
 clear hp hl hK hk hm
 go_enter Tryz.func88, Tryz.ntmps88
 go_wp2_with (go_at_call 103; refine HN.out.mono ?_; rintro e w1 ⟨d, rfl, hd, hA, hb⟩)
 have hb0 : (0 : Nat) ≤ m := Nat.zero_le _
 have HA := Lib.hid (And.intro hd (And.intro hA hb))
 clear hd hA hb HN
 go_loopw [12] (fun i wr => ∃ (k : Nat) (wv : Value), k ≤ m ∧ i = .int .i64 k ∧ HashAt wr d kind (writes kind (ls.take k)).hs (writes kind (ls.take k)).wait (writes kind (ls.take k)).n wv ∧ (∀ g, wv.ownBlock = some g → w.heap.size ≤ g) ∧ Below w.heap.size w wr) (fun i _ => m - (intOf i).toNat)
 case atStart => exact ⟨0, _, by omega, rfl, HA.out.2.1, fun g h => by simp [Value.ownBlock] at h, HA.out.2.2⟩
 case round =>
  obtain ⟨k, wv, hk, rfl, hA, hwv, hB⟩ := hrel
  have hKr := HP.out.2.2.below hB
  have hdl : w.heap.size ≤ d := HA.out.1
  have hwt := writes_wait kind Hk.out (ls.take k)
  rcases Nat.lt_or_ge k m with hlt | hge
  ·obtain ⟨b, off, rfl, hbl, hcell⟩ := HP.out.1.2.2.2 (by omega)
   obtain ⟨l, hl⟩ : ∃ l, ls[k]? = some l := ⟨_, List.getElem?_eq_getElem (by rw [← Hm.out]; exact hlt)⟩
   obtain ⟨A', m', c', hc, hr⟩ := hcell k l hl
   have hc' := (hB.cell (p := ⟨b, off + k, none⟩) hbl).trans hc
   have hll := HP.out.2.1 l (List.mem_of_getElem? hl)
   have HW := Lib.hid (write_any d kind _ _ _ wv A' m' c' l wr hA (hr.below hB) (by omega) hKr (fun ad had => by
    have h1 := hr.lt ad had
    exact ⟨by omega, fun h => by have := hwv _ h; omega⟩))
   have hsc := Lib.hid (show writes kind (ls.take (k + 1)) = (writes kind (ls.take k)).write kind l by rw [List.take_add_one, hl]; exact writes_snoc _ _ _)
   have hki : (k : Int) < m := by omega
   have hk0 : (0 : Int) ≤ k := by omega
   have Hr := Lib.hid (And.intro hwv (And.intro hB hdl))
   clear hA hwv hB hKr hwt hcell hl hc hr hll hlt hk hdl
   go_wp2_with (go_at_call 104; refine HW.out.mono ?_; rintro e w2 ⟨rfl, ⟨wv', hA', hwv'⟩, hT'⟩)
   go_roundw
   case rel =>
    obtain ⟨hwv, hB, hdl⟩ := Hr.out
    refine ⟨k + 1, wv', by omega, by go_num, by rw [hsc.out]; exact hA', fun g hg => Nat.le_trans hB.size (hwv' g hg), below_turn hB hT' ?_ hB.size⟩
    intro t ht
    rcases List.mem_cons.1 ht with rfl | ht
    ·exact hdl
    ·exact hwv t (by simpa using ht)
   case measure => simp [intOf]; omega
  ·obtain rfl : k = m := by omega
   have hq : ¬ ((k : Int) < k) := by omega
   rw [List.take_of_length_le (by rw [← Hm.out]; omega)] at hA hwt
   have HS := Lib.hid (sum_any d kind _ _ _ wv wr hA (by omega) hKr)
   have Hr := Lib.hid hB
   clear hA hwv hB hKr hwt hk hge hdl
   go_wp2_with (go_at_call 105; refine HS.out.mono ?_; rintro e w2 ⟨g, c', rfl, hO, hb⟩)
   go_ret
   exact ⟨g, c', rfl, hO.mono Hr.out.size, Hr.out.trans (hb.mono Hr.out.size)⟩
end Go.Proofs.YtgjnmpjimhbfgaaGreatDoor
