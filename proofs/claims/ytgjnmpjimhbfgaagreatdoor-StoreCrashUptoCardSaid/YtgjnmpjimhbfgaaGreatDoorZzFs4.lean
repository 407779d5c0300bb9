/-
  blockfs: head, side, refused, wrote; the readings of a volume.
-/
import Derived.Test.YtgjnmpjimhbfgaaGreatDoorZzFs0
import Derived.Test.YtgjnmpjimhbfgaaGreatDoorZzAudP
import Derived.Test.YtgjnmpjimhbfgaaGreatDoorAppZ
import Derived.Test.YtgjnmpjimhbfgaaGreatDoorZzFull
import Derived.Lib.SlBytesConst
import Derived.Test.YtgjnmpjimhbfgaaGreatDoorZzEqB
import Derived.Test.YtgjnmpjimhbfgaaGreatDoorZzWBe
import Derived.Test.YtgjnmpjimhbfgaaGreatDoorZzRangeH
import Derived.RangeFuncBound
import Derived.RangeFuncCalls
import Derived.OwnWalkIn
import Derived.TacticsInMore
import Derived.LoopNIn
import Derived.LoopIn
namespace Go.Proofs.YtgjnmpjimhbfgaaGreatDoor
set_option maxRecDepth 100000
open Go.RowKit
theorem op_app_full {o : Oper} {a : Act} {w : World} {K : Act → World → Prop} {Q : Exit → Act → World → Prop} (s x : Operand)
  (ho : o.op = .call { callee := .builtin .append, args := #[s, x], argTypes := #[32, 32] })
  (g off : Nat) (l : List UInt8) (hs : a.eval s = .slice (some ⟨g, off, none⟩) l.length l.length) (hat : At w g off l)
  (b2 off2 c2 : Nat) (l2 : List UInt8) (hx : a.eval x = .slice (some ⟨b2, off2, none⟩) l2.length c2) (hat2 : At w b2 off2 l2) (h0 : 0 < l2.length) (hlen : l.length + l2.length ≤ 1000000)
  (h : ∀ c' w', Own w' w.heap.size (.slice (some ⟨w.heap.size, 0, none⟩) (l.length + l2.length) c') (l ++ l2) → Below w.heap.size w w' → K (a.put o.dst (.slice (some ⟨w.heap.size, 0, none⟩) (l.length + l2.length) c')) w') :
  Oper.wp Tryz.prog o a w K Q := by
 obtain ⟨i, hi, hz, hsz, hby⟩ := info_parts Tryz.infoU8
 have hadd : ∀ {b q : Nat} {xs : List UInt8}, At w b q xs → ∀ (j : Nat) (v : Value), (xs.map B)[j]? = some v → w.cell? ((⟨b, q, none⟩ : Addr).add j) = some v := fun hA j v hv => by
  rw [Addr.add_mid]
  rw [List.getElem?_map] at hv
  obtain ⟨y, hy, rfl⟩ := Option.map_eq_some_iff.1 hv
  exact hA.2 j y hy
 have hr := run_append_grow (P := Tryz.prog) w 32 o.type 5 i (.int .u8 0) Tryz.underlying32 hi hz ⟨g, off, none⟩ l.length l.length (l.map B) (by simp [hsz]) (hadd hat) ⟨b2, off2, none⟩ l2.length c2 (l2.map B) (by simp [hsz]) (hadd hat2)
  (by omega) (by omega) (growslice_fits (by omega) (by rw [hby]; omega))
 unfold Oper.wp
 simp only [execOp, ho, resolve, invoke, builtin, Sem.run_bind, Sem.run_pure, Result.andThen_ok, List.map_toArray, List.map_cons, List.map_nil, hs, hx, hr]
 have hge := grownCap_ge w (l.length + l2.length) l.length 5
 have hcm : grownCap w (l.length + l2.length) l.length 5 ≤ maxLen := grownCap_le_maxLen w (l.length + l2.length) l.length 5 (by unfold maxLen; omega)
 have hll : (l ++ l2).length = l.length + l2.length := List.length_append
 refine h _ _ ⟨by simp, .inr ⟨w.heap.size, _, _, by rw [hll], Nat.le_refl _, heap_alloc_new w.drew _, by rw [hll]; exact hge, hcm, ?_, ?_⟩⟩ ⟨rfl, rfl, rfl, by simp, fun j hj => heap_alloc_old w.drew _ hj⟩
 ·simp only [Array.size_append, List.size_toArray, size_zeroCells, List.length_map]
  simp [Value.cells]
  omega
 ·simp only [Array.toList_append]
  rw [← List.map_append, Nat.mul_one]
  exact List.take_left' (by simp)
theorem append64_full (g off : Nat) (l : List UInt8) (x : UInt64) (w : World) (h : At w g off l) (hl : l.length ≤ 1000) :
  Calls Tryz.prog 87 #[.slice (some ⟨g, off, none⟩) l.length l.length, U64 x] w fun e w' => ∃ A n c, e = .returned (.slice A n c) ∧ Own w' w.heap.size (.slice A n c) (l ++ bytes64 x) ∧ Below w.heap.size w w' := by
 have hat2 : At (w.alloc (.cells #[B (x >>> 56).toUInt8, B (x >>> 48).toUInt8, B (x >>> 40).toUInt8, B (x >>> 32).toUInt8, B (x >>> 24).toUInt8, B (x >>> 16).toUInt8, B (x >>> 8).toUInt8, B x.toUInt8] 5)) w.heap.size 0 (bytes64 x) :=
  (Own.of_cells (base := 0) (l := bytes64 x) (cur := (bytes64 x).map B) (heap_alloc_new w _) (Nat.zero_le _) rfl (by simp [bytes64, maxLen]) (by simp [bytes64]) rfl).at_
 have hat := h.keep (w' := w.alloc (.cells #[B (x >>> 56).toUInt8, B (x >>> 48).toUInt8, B (x >>> 40).toUInt8, B (x >>> 32).toUInt8, B (x >>> 24).toUInt8, B (x >>> 16).toUInt8, B (x >>> 8).toUInt8, B x.toUInt8] 5)) (by simp) (Below.heap_alloc w _ g h.1)
 have HA := Lib.hid (And.intro hat hat2)
 clear hat hat2 h
 go_enter Tryz.func87, Tryz.ntmps87
 go_wp2_with (at_builtin; refine wpList_plain rfl (fun _ hK => op_app_full _ _ rfl g off l rfl HA.out.1 w.heap.size 0 8 (bytes64 x) rfl HA.out.2 (by simp [bytes64]) (by simp [bytes64]; omega) (fun c' w' ho hb => hK _ _ ?_)); have H2 := Lib.hid (And.intro ho hb); clear ho hb)
 go_wp2_with fail
 go_ret
 obtain ⟨ho, hb⟩ := H2.out
 have es : ∀ o, (w.alloc o).heap.size = w.heap.size + 1 := fun o => by simp
 rw [es] at ho hb
 exact ⟨_, _, _, rfl, ho.mono (Nat.le_succ _), ((Below.refl _ w).alloc (Nat.le_refl _) _).trans (hb.mono (Nat.le_succ _))⟩
def magicB : List UInt8 := [98, 97, 105, 108, 101, 121, 39, 115, 32, 118, 111, 108, 117, 109, 101, 10]
theorem at_marked (w : World) (l : List UInt8) (fr : Nat × Nat) : At (w.alloc (.cells (l.map B).toArray 5 fr)) w.heap.size 0 l := by
 refine ⟨by simp, fun k x hk => ?_⟩
 rw [World.cell?_alloc_mark]
 simp [hk]
def headA (c : Nat) : List UInt8 := magicB ++ bytes64 (UInt64.ofNat c)
def headH (c : Nat) : List UInt8 := (writes 3 [headA c]).sum 3
def headB (c : Nat) : List UInt8 := headA c ++ headH c ++ zs 200
theorem headA_len (c : Nat) : (headA c).length = 24 := rfl
theorem headH_len (c : Nat) : (headH c).length = 32 := by
 unfold headH HSt.sum
 rw [sumOf_len 3 _ _ _ (by decide) (writes_len 3 _)]; rfl
theorem headB_len (c : Nat) : (headB c).length = 256 := by
 unfold headB
 rw [List.length_append, List.length_append, headA_len, headH_len]; rfl
set_option maxRecDepth 100000 in
set_option maxHeartbeats 1000000 in
theorem head_any_q (c : Nat) (hc : c < 1000000) (w : World) (hK : KAt w) :
  Calls Tryz.prog 62 #[.int .i64 (c : Int)] w fun e w' => ∃ A n k, e = .returned (.slice A n k) ∧ Own w' w.heap.size (.slice A n k) (headB c) ∧ Below w.heap.size w w' := by
 obtain ⟨w1, hw1⟩ : ∃ w1, w.alloc (.cells (magicB.map B).toArray 5 (16, 17)) = w1 := ⟨_, rfl⟩
 have hb1 : Below w.heap.size w w1 := by rw [← hw1]; exact (Below.refl _ _).alloc (Nat.le_refl _) _
 have hO1 : At w1 w.heap.size 0 magicB := by rw [← hw1]; exact at_marked w magicB (16, 17)
 have kc := fun (w : World) (C : Array Value) (n c : Nat) => Lib.run_convert_bytes_const (P := Tryz.prog) w 32 5 C n c Tryz.underlying32 Tryz.underlying5
 have hcv : IntKind.u64.wrap (c : Int) = (c : Int) := IntWalk.u64_in _ (by omega)
 have hap := append64_full w.heap.size 0 magicB (UInt64.ofNat c) w1 hO1 (by decide)
 rw [show magicB.length = 16 from rfl] at hap
 have hU : U64 (UInt64.ofNat c) = .int .u64 (c : Int) := by unfold U64; rw [UInt64.toNat_ofNat', Nat.mod_eq_of_lt (by omega)]
 rw [hU] at hap
 have hmB : (magicB.map B).toArray = #[.int .u8 98, .int .u8 97, .int .u8 105, .int .u8 108, .int .u8 101, .int .u8 121, .int .u8 39, .int .u8 115, .int .u8 32, .int .u8 118, .int .u8 111, .int .u8 108, .int .u8 117, .int .u8 109, .int .u8 101, .int .u8 10] := rfl
 rw [hmB] at hw1
 have H1 := Lib.hid (And.intro hb1 hK)
 clear hb1 hO1 hmB hU hK
 go_enter Tryz.func62, Tryz.ntmps62
 go_wp2_with fail
 try rw [hw1]
 refine hap.mono ?_
 rintro e w2 ⟨A2, n2, c2, rfl, hO2, hb2⟩
 have hb2' : Below w.heap.size w w2 := H1.out.1.trans (hb2.mono H1.out.1.size)
 obtain rfl : n2 = 24 := hO2.len
 have H2 := Lib.hid (And.intro (show Own w2 w.heap.size (.slice A2 24 c2) (headA c) from hO2.mono H1.out.1.size) (And.intro hb2' (H1.out.2.below hb2')))
 clear hap hO2 hb2 hb2' hw1 kc
 go_wp2_with fail
 obtain ⟨w3, hw3⟩ : ∃ w3, w2.alloc (.cells #[.slice A2 24 c2] 32) = w3 := ⟨_, rfl⟩
 have hb3 : Below w2.heap.size w2 w3 := by rw [← hw3]; exact (Below.refl _ _).alloc (Nat.le_refl _) _
 have hbk : Blk w3 w2.heap.size 32 #[.slice A2 24 c2] := by rw [← hw3]; exact Blk.new _ _ _
 try rw [hw3]
 have hP : PartsAt w3 (some ⟨w2.heap.size, 0, none⟩) 1 1 [headA c] := by
  refine ⟨rfl, Nat.le_refl _, by decide, fun _ => ⟨w2.heap.size, 0, rfl, hbk.lt, fun i l hl => ?_⟩⟩
  have hi : i = 0 := by
   have := (List.getElem?_eq_some_iff.1 hl).1
   simp at this; omega
  subst hi
  injection hl with hl
  subst hl
  exact ⟨A2, 24, c2, by rw [hbk.cell]; rfl, (H2.out.1.below hb3).rd⟩
 refine (of_any 3 (by decide) _ 1 1 [headA c] w3 hP (by simp [headA_len]) (H2.out.2.2.below hb3)).mono ?_
 rintro e w4 ⟨g4, c4, rfl, hO4, hb4⟩
 have hl4 : ((writes 3 [headA c]).sum 3).length = 32 := headH_len c
 rw [hl4] at hO4 ⊢
 have h24 : Below w2.heap.size w2 w4 := hb3.trans (hb4.mono hb3.size)
 have H4 := Lib.hid (And.intro (H2.out.1.below h24) (And.intro hO4.rd (H2.out.2.1.trans (h24.mono H2.out.2.1.size))))
 clear hP hb3 hbk hw3 hO4 hb4 hl4 h24
 go_wp2_with (at_builtin; first | (go_loud (refine wp_app2 (.tmp 9) (.tmp 12) w.heap.size (.slice A2 24 c2) (headA c) H4.out.1 H4.out.2.2.size (some ⟨g4, 0, none⟩) 32 c4 (headH c) H4.out.2.1 (by rw [headA_len, headH_len]; decide) rfl rfl rfl rfl ?_; intro A5 n5 c5 w5 hi5 hG; have hn5 : n5 = 56 := (by have h9 := hG.own.len; rw [List.length_append, headA_len, headH_len] at h9; exact h9); have H5 := Lib.hid hG; subst hn5; clear hG)) | (go_loud (refine wp_appZ (.tmp 14) (.tmp 17) w.heap.size (.slice A5 56 c5) (headA c ++ headH c) H5.out.own (Nat.le_trans H4.out.2.2.size (by have := H5.out.grown.size; exact this)) 200 (by decide) (by rw [List.length_append, headA_len, headH_len]; decide) rfl rfl rfl rfl ?_; intro A6 n6 c6 w6 hi6 hG; have H6 := Lib.hid hG; clear hG)))
 go_ret
 exact ⟨_, _, _, rfl, H6.out.own, H4.out.2.2.trans (H5.out.below.trans H6.out.below)⟩
theorem equalB_any (A : Option Addr) (m c : Nat) (A' : Option Addr) (m' c' : Nat) (l l' : List UInt8) (w : World) (hr : Rd w A m c l) (hr' : Rd w A' m' c' l') :
  Calls Tryz.prog 66 #[.slice A m c, .slice A' m' c'] w fun e w' => (e = .returned (.bool (decide (l = l')))) ∧ w = w' := by
 have s1 := hr.str
 have s2 := hr'.str
 clear hr hr'
 by_cases he : l = l'
 ·rw [decide_eq_true he]
  subst he
  go_enter Tryz.func66, Tryz.ntmps66
  go_wp2
  go_ret
  exact ⟨by first | rfl | simp, rfl⟩
 ·rw [decide_eq_false he]
  have hn : (⟨l.toArray⟩ : ByteArray) ≠ ⟨l'.toArray⟩ := fun e => he (by simpa using congrArg (fun b => b.data.toList) e)
  go_enter Tryz.func66, Tryz.ntmps66
  go_wp2
  go_ret
  exact ⟨by first | rfl | simp [he], rfl⟩
theorem cell_old {w w' : World} {b o : Nat} {v : Value} (ht : Old w w') (h : w.cell? ⟨b, o, none⟩ = some v) : w'.cell? ⟨b, o, none⟩ = some v := cell_turn h (Turn.of_below [] ht) (by simp)
def DkAt (w : World) (d L : Nat) (s : Dsk) : Prop := ∃ xs, DiskAt w d L xs s
theorem DkAt.below {w w' : World} {d L : Nat} {s : Dsk} (h : DkAt w d L s) (hb : Below w.heap.size w w') : DkAt w' d L s := by
 obtain ⟨xs, h⟩ := h; exact ⟨xs, h.below hb⟩
theorem DkAt.n {w : World} {d L : Nat} {s : Dsk} (h : DkAt w d L s) : 0 < s.n ∧ s.n ≤ 65536 := by obtain ⟨xs, h⟩ := h; exact ⟨h.2.2.2.1, h.2.2.2.2⟩
theorem DkAt.lt {w : World} {d L : Nat} {s : Dsk} (h : DkAt w d L s) : d < w.heap.size ∧ L < w.heap.size := by obtain ⟨xs, h⟩ := h; exact ⟨h.1.lt, h.2.1.lt⟩
theorem DkAt.typed {w : World} {d L : Nat} {s : Dsk} (h : DkAt w d L s) : (∃ cs, Blk w d 70 cs) ∧ ∃ cs, Blk w L 99 cs := by
 obtain ⟨xs, h⟩ := h; exact ⟨⟨_, h.1⟩, ⟨_, h.2.1⟩⟩
theorem rd_lt {s : Dsk} {i : Nat} (hi : i < s.n) : s.rd i = s.secs[i].read := by
 unfold Dsk.rd
 rw [List.getElem?_eq_getElem hi]; rfl
theorem Own.beside {w : World} {base : Nat} {v : Value} {l : List UInt8} (h : Own w base v l) {d L : Nat} {s : Dsk} (hd : DkAt w d L s) : ∀ g, v.ownBlock = some g → g ∉ [d, L] := by
 intro g hg hm
 obtain ⟨⟨cs, h1⟩, cs2, h2⟩ := hd.typed
 simp at hm
 rcases hm with rfl | rfl
 ·exact h.ne h1 (by decide) hg
 ·exact h.ne h2 (by decide) hg
theorem KAt.beside {w w' : World} (h : KAt w) {d L : Nat} {s : Dsk} (hd : DkAt w d L s) (ht : Turn [d, L] w w') : KAt w' := by
 obtain ⟨xs, h1, h2, h3, h4, _⟩ := hd
 have hk := h.2 0 _ (show kTab[0]? = some (kTab.getD 0 0) from rfl)
 have key : ∀ g : Nat, g = 1 → w.cell? ⟨g, 0, none⟩ = some (U64 (kTab.getD 0 0)) := fun g hg => by rw [hg]; exact hk
 refine h.turn ht (fun hm => ?_)
 rw [List.mem_cons, List.mem_singleton] at hm
 rcases hm with e | e
 ·have hk := key d e.symm
  rw [h1.cell] at hk
  cases hk
 ·obtain ⟨x, hx⟩ : ∃ x, xs[0]? = some x := ⟨_, List.getElem?_eq_getElem (by rw [h3.1]; exact h4)⟩
  obtain ⟨A1, n1, c1, e1⟩ := (h3.2 0 x _ hx (List.getElem?_eq_getElem h4)).1.slice
  have h0 := (encS_get xs 0 x hx).1
  rw [Nat.zero_mul] at h0
  have hk := key L e.symm
  rw [h2.cell, List.getElem?_toArray, h0, e1] at hk
  cases hk
theorem dkread_any (d L : Nat) (s : Dsk) (w : World) (h : DkAt w d L s) (i : Nat) (hi : i < s.n) :
  Calls Tryz.prog 69 #[.pointer (some ⟨d, 0, none⟩), .int .i64 (i : Int)] w fun e w' =>
   ∃ g c', e = .returned (.slice (some ⟨g, 0, none⟩) 256 c') ∧ Own w' w.heap.size (.slice (some ⟨g, 0, none⟩) 256 c') (s.rd i) ∧ (s.rd i).length = 256 ∧ Below w.heap.size w w' := by
 obtain ⟨xs, h⟩ := h
 rw [rd_lt hi]
 exact read_in d L xs s w h i hi
theorem dkwrite_any (d L : Nat) (s : Dsk) (w : World) (k : Nat) (h : DkAt w d L s) (hf : FOk s k) (hk : k < 1000000) (i : Nat) (hi : i < s.n) (b off c : Nat) (l : List UInt8) (hb : At w b off l) (hl : l.length = 256) :
  Calls Tryz.prog 85 #[.pointer (some ⟨d, 0, none⟩), .int .i64 (i : Int), .slice (some ⟨b, off, none⟩) 256 c] w fun e w' =>
   e = .returned (.bool (s.wr i l).1) ∧ DkAt w' d L (s.wr i l).2 ∧ Turn [d, L] w w' := by
 obtain ⟨xs, h⟩ := h
 unfold Dsk.wr
 cases hd : s.dead with
 | true =>
  refine (write_no d L xs s i (some ⟨b, off, none⟩) 256 c w h (.inl hd)).mono ?_
  rintro e w' ⟨rfl, rfl⟩
  exact ⟨rfl, ⟨xs, h⟩, Turn.refl _ _⟩
 | false =>
  refine (write_in d L xs s w h hd i hi b off c l hb hl (Nat.lt_of_le_of_lt hf.count hk) (fun hfu => ⟨hf.left hfu hd, by have := hf.most; omega⟩)).mono ?_
  rintro e w' ⟨rfl, h1, h2⟩
  exact ⟨rfl, h1, h2⟩
theorem dksync_any (d L : Nat) (s : Dsk) (w : World) (k : Nat) (h : DkAt w d L s) (hf : FOk s k) (hk : k < 1000000) :
  Calls Tryz.prog 60 #[.pointer (some ⟨d, 0, none⟩)] w fun e w' => e = .returned (.bool s.sy.1) ∧ DkAt w' d L s.sy.2 ∧ Turn [d, L] w w' := by
 obtain ⟨xs, h⟩ := h
 unfold Dsk.sy
 by_cases hd' : s.dead = true
 ·rw [if_pos hd']
  refine (sync_dead d L xs s w h hd').mono ?_
  rintro e w' ⟨rfl, rfl⟩
  exact ⟨rfl, ⟨xs, h⟩, Turn.refl _ _⟩
 ·rw [if_neg hd']
  have hd : s.dead = false := by cases h0 : s.dead with | false => rfl | true => exact absurd h0 hd'
  refine (sync_any d L xs s w h hd (Nat.lt_of_le_of_lt hf.count hk) (fun hfu => ⟨hf.left hfu hd, by have := hf.most; omega⟩)).mono ?_
  rintro e w' ⟨rfl, h1, h2⟩
  exact ⟨rfl, h1, h2⟩
theorem side_any (B c i : Nat) (hB : B ≤ 1000000) (hc : c ≤ 1000000) (hi : i ≤ 1000000) (w : World) :
  Calls Tryz.prog 61 #[.int .i64 (B : Int), .int .i64 (c : Int), .int .i64 (i : Int)] w fun e w' => e = .returned (.int .i64 ((8 + c % 2 * B + i : Nat) : Int)) ∧ w = w' := by
 obtain ⟨r, hr⟩ : ∃ r, c % 2 = r := ⟨_, rfl⟩
 have hr1 : (c : Int).tmod 2 = (r : Int) := by rw [Int.tmod_eq_emod_of_nonneg (by omega)]; omega
 rw [hr]
 rcases (show r = 0 ∨ r = 1 by omega) with rfl | rfl
 ·clear hr
  go_enter Tryz.func61, Tryz.ntmps61
  go_wp2
  go_ret
  exact ⟨by congr 2; simp, rfl⟩
 ·clear hr
  go_enter Tryz.func61, Tryz.ntmps61
  go_wp2
  go_ret
  exact ⟨by congr 2; simp, rfl⟩
theorem refused_any (d L : Nat) (s : Dsk) (w : World) (h : DkAt w d L s) :
  Calls Tryz.prog 58 #[.pointer (some ⟨d, 0, none⟩)] w fun e w' => e = .returned (.int .i64 (if s.n < 16 then 7 else if s.dead then 48 else 0)) ∧ w = w' := by
 obtain ⟨xs, h⟩ := h
 have h1 := sectors_any d L xs s w h
 have h2 := dead_any d L xs s w h
 have hn := h.2.2.2.2
 rw [show s.secs.length = s.n from rfl] at h1 hn
 obtain ⟨N, hN⟩ : ∃ N, s.n = N := ⟨_, rfl⟩
 obtain ⟨dd, hdd⟩ : ∃ dd, s.dead = dd := ⟨_, rfl⟩
 rw [hN] at h1 hn
 rw [hN, hdd]
 rw [hdd] at h2
 clear h hN hdd
 by_cases h16 : N < 16
 ·have t1 : (N : Int) < 16 := by omega
  have t1d : decide ((N : Int) < 16) = true := decide_eq_true t1
  rw [if_pos h16]
  go_enter Tryz.func58, Tryz.ntmps58
  go_wp2_with fail
  refine h1.mono ?_
  rintro e w' ⟨rfl, rfl⟩
  go_wp2_with fail
  go_ret
  exact ⟨rfl, rfl⟩
 ·have t1 : ¬ (N : Int) < 16 := by omega
  have t1d : decide ((N : Int) < 16) = false := decide_eq_false t1
  rw [if_neg h16]
  go_enter Tryz.func58, Tryz.ntmps58
  go_wp2_with fail
  refine h1.mono ?_
  rintro e w' ⟨rfl, rfl⟩
  go_wp2_with fail
  refine h2.mono ?_
  rintro e w' ⟨rfl, rfl⟩
  cases dd with
  | true =>
   go_wp2_with fail
   go_ret
   exact ⟨rfl, rfl⟩
  | false =>
   go_wp2_with fail
   go_ret
   exact ⟨rfl, rfl⟩
theorem wrote_any (d L : Nat) (s : Dsk) (w : World) (k : Nat) (h : DkAt w d L s) (hf : FOk s k) (hk : k < 1000000) (i : Nat) (hi : i < s.n) (b off c : Nat) (l : List UInt8) (hb : At w b off l) (hl : l.length = 256) (hc : 256 ≤ c ∧ c ≤ maxLen) :
  Calls Tryz.prog 59 #[.pointer (some ⟨d, 0, none⟩), .int .i64 (i : Int), .slice (some ⟨b, off, none⟩) 256 c] w fun e w' =>
   e = .returned (.bool (s.wrote i l).1) ∧ DkAt w' d L (s.wrote i l).2 ∧ Turn [d, L] w w' := by
 have hR := dkread_any d L s w h i hi
 have HH := Lib.hid (And.intro h hb)
 clear h hb
 obtain ⟨rs, hrs⟩ : ∃ rs, s.rd i = rs := ⟨_, rfl⟩
 rw [hrs] at hR
 obtain ⟨q, hq⟩ : ∃ q, s.wrote i l = q := ⟨_, rfl⟩
 rw [hq]
 unfold Dsk.wrote at hq
 rw [hrs] at hq
 have HQ := Lib.hid (And.intro hq hi)
 clear hq hrs hi
 go_enter Tryz.func59, Tryz.ntmps59
 go_wp2_with fail
 refine hR.mono ?_
 rintro e w1 ⟨g1, c1, rfl, hO1, hl1, hb1⟩
 have hE := equalB_any (some ⟨g1, 0, none⟩) 256 c1 (some ⟨b, off, none⟩) 256 c rs l w1 hO1.rd ⟨hl.symm, hc.1, hc.2, .inr ⟨b, off, rfl, HH.out.2.keep hb1.size (hb1.block b HH.out.2.1)⟩⟩
 have H1 := Lib.hid (And.intro (HH.out.1.below hb1) (And.intro (HH.out.2.keep hb1.size (hb1.block b HH.out.2.1)) hb1))
 clear hR hO1 hl1 hb1
 go_wp2_with fail
 refine hE.mono ?_
 rintro e w' ⟨rfl, rfl⟩
 clear hE
 have hq := HQ.out.1
 have hi := HQ.out.2
 by_cases he : rs = l
 ·rw [if_pos he] at hq
  subst hq
  rw [decide_eq_true he]
  clear he hi
  go_wp2_with fail
  go_ret
  exact ⟨rfl, H1.out.1, Turn.of_below _ H1.out.2.2⟩
 ·rw [if_neg he] at hq
  rw [decide_eq_false he]
  have hW := dkwrite_any d L s w1 k H1.out.1 hf hk i hi b off c l H1.out.2.1 hl
  rw [hq] at hW
  obtain ⟨r1, r2⟩ := q
  clear he hq hi
  go_wp2_with fail
  refine hW.mono ?_
  rintro e w2 ⟨rfl, hD, hT⟩
  have H2 := Lib.hid (And.intro hD ((Turn.of_below [d, L] H1.out.2.2).trans hT (fun x hx => .inl hx)))
  clear hD hT hW
  go_wp2_with fail
  go_ret
  exact ⟨rfl, H2.out.1, H2.out.2⟩
def VolB (w : World) (v d B c : Nat) (br : Bool) : Prop := Blk w v 109 #[.pointer (some ⟨d, 0, none⟩), .int .i64 (B : Int), .int .i64 (c : Int), .bool br]
theorem VolB.cells {w : World} {v d B c : Nat} {br : Bool} (h : VolB w v d B c br) : w.cell? ⟨v, 0, none⟩ = some (.pointer (some ⟨d, 0, none⟩)) ∧ w.cell? ⟨v, 1, none⟩ = some (.int .i64 (B : Int)) ∧ w.cell? ⟨v, 2, none⟩ = some (.int .i64 (c : Int)) ∧ w.cell? ⟨v, 3, none⟩ = some (.bool br) := by
 unfold VolB at h
 rw [h.cell, h.cell, h.cell, h.cell]; exact ⟨rfl, rfl, rfl, rfl⟩
theorem blocks_any (v d B c : Nat) (br : Bool) (w : World) (h : VolB w v d B c br) : Calls Tryz.prog 37 #[.pointer (some ⟨v, 0, none⟩)] w fun e w' => e = .returned (.int .i64 (B : Int)) ∧ w = w' := by
 obtain ⟨c0, c1, c2, c3⟩ := h.cells
 clear h
 go_enter Tryz.func37, Tryz.ntmps37
 go_wp2
 go_ret
 exact ⟨rfl, rfl⟩
theorem volread_any (v d L B c : Nat) (br : Bool) (s : Dsk) (w : World) (h : VolB w v d B c br) (hD : DkAt w d L s) (hB : B ≤ 1000) (hc : c ≤ 100000) (hn : 8 + c % 2 * B + B ≤ s.n) (i : Nat) (hi : i < B) :
  Calls Tryz.prog 38 #[.pointer (some ⟨v, 0, none⟩), .int .i64 (i : Int)] w fun e w' =>
   ∃ g c', e = .returned (.slice (some ⟨g, 0, none⟩) 256 c') ∧ Own w' w.heap.size (.slice (some ⟨g, 0, none⟩) 256 c') (s.rd (8 + c % 2 * B + i)) ∧ (s.rd (8 + c % 2 * B + i)).length = 256 ∧ Below w.heap.size w w' := by
 have hb := blocks_any v d B c br w h
 have hcs := h.cells
 obtain ⟨q, hq⟩ : ∃ q, 8 + c % 2 * B + i = q := ⟨_, rfl⟩
 have hqn : q < s.n := by omega
 have hsd : ∀ w, Calls Tryz.prog 61 #[.int .i64 (B : Int), .int .i64 (c : Int), .int .i64 (i : Int)] w fun e w' => e = .returned (.int .i64 (q : Int)) ∧ w = w' := fun w => by
  rw [← hq]; exact side_any B c i (by omega) (by omega) (by omega) w
 rw [hq]
 have HS := Lib.hid (And.intro hsd (And.intro hcs (And.intro hD hqn)))
 have h0 : ¬ (i : Int) < 0 := by omega
 have t1 : decide ((i : Int) < 0) = false := decide_eq_false h0
 have h2 : ¬ (B : Int) ≤ i := by omega
 have t2 : decide ((B : Int) ≤ (i : Int)) = false := decide_eq_false h2
 clear h hcs hsd hD hqn hq hn
 go_enter Tryz.func38, Tryz.ntmps38
 go_wp2_with fail
 refine hb.mono ?_
 rintro e w' ⟨rfl, rfl⟩
 clear hb
 go_wp2_with fail
 refine region_old (by kernel_rfl) (fun wd hHeld hSz => ?_)
 have HSz := Lib.hid hSz
 clear hSz
 refine tkS 0 hHeld ?_
 refine tkS 1 hHeld ?_
 refine tkS 2 hHeld ?_
 refine tkS 3 hHeld ?_ (hy := by intro wq hSw; obtain ⟨k0, k1, k2, k3⟩ := HS.out.2.1; have e0 := cell_old hSw k0; have e1 := cell_old hSw k1; have e2 := cell_old hSw k2; clear k0 k1 k2 k3; clear hSw; go_simp; try with_reducible rfl)
 refine tkS 4 hHeld ?_
 refine tkS 5 hHeld ?_
 refine tkS 6 hHeld ?_
 refine tkS 7 hHeld ?_ (hy := by intro wq hSw; obtain ⟨k0, k1, k2, k3⟩ := HS.out.2.1; have e0 := cell_old hSw k0; have e1 := cell_old hSw k1; have e2 := cell_old hSw k2; clear k0 k1 k2 k3; clear hSw; go_simp; try with_reducible rfl)
 refine tkS 8 hHeld ?_
 refine tkS 9 hHeld ?_
 refine tkS 10 hHeld ?_
 refine tkS 11 hHeld ?_ (hy := by intro wq hSw; obtain ⟨k0, k1, k2, k3⟩ := HS.out.2.1; have e0 := cell_old hSw k0; have e1 := cell_old hSw k1; have e2 := cell_old hSw k2; clear k0 k1 k2 k3; clear hSw; go_simp; try with_reducible rfl)
 refine tkS 12 hHeld ?_
 refine rdL 13 (fun K hK => ?_)
 go_simp
 refine (HS.out.1 _).mono ?_
 rintro e w' ⟨rfl, rfl⟩
 refine hK.out _ _ (by repeat (first | exact hHeld | exact Old.refl _ | assumption | refine Old.drew ?_ | refine Old.drewN ?_ _ | refine Old.alloc ?_ _)) (fun hHeld => ?_)
 clear hK K
 try simp only [Act.put, sA, sB, sC]
 refine rdL 14 (fun K hK => ?_)
 go_simp
 refine (dkread_any d L s _ (HS.out.2.2.1.below hHeld) q HS.out.2.2.2).mono ?_
 rintro e w2 ⟨g2, c2, rfl, hO2, hl2, hb2⟩
 have HO2 := Lib.hid (And.intro (hO2.mono (base' := w.heap.size) hHeld.size) hl2)
 have hb2' := Old.trans hHeld hb2
 clear hO2 hl2
 refine hK.out _ _ hb2' (fun hHeld => ?_)
 clear hK K
 try simp only [Act.put, sA, sB, sC]
 refine tkS 15 hHeld ?_
 refine wpAnyH_done (by kernel_rfl) ?_ _
 refine NoPanic.normal ?_
 try simp only [Exit.then]
 have H9 := Lib.hid (And.intro HO2.out hHeld)
 clear hHeld
 go_wp2_with fail
 go_ret
 exact ⟨_, _, rfl, H9.out.1.1, H9.out.1.2, H9.out.2⟩
def Dsk.fmt (s : Dsk) : Bool × Dsk :=
 if s.sy.1 = false then (false, s.sy.2) else if s.sy.2.sy.1 = false then (false, s.sy.2.sy.2)
 else if (s.sy.2.sy.2.wr 0 (headB 0)).1 = false then (false, (s.sy.2.sy.2.wr 0 (headB 0)).2) else (s.sy.2.sy.2.wr 0 (headB 0)).2.sy
theorem head0_ne : zs 256 ≠ headB 0 := by
 intro e
 have := congrArg (fun l => l.head?) e
 simp [headB, headA, magicB, zs] at this
theorem format_dead (d L : Nat) (s : Dsk) (w : World) (h : DkAt w d L s) (hn : 16 ≤ s.n) (hd : s.dead = true) :
  Calls Tryz.prog 32 #[.pointer (some ⟨d, 0, none⟩)] w fun e w' => e = .returned (.int .i64 48) ∧ w = w' := by
 have h1 := refused_any d L s w h
 rw [if_neg (by omega), hd, if_pos rfl] at h1
 go_enter Tryz.func32, Tryz.ntmps32
 go_wp2_with fail
 refine h1.mono ?_
 rintro e w' ⟨rfl, rfl⟩
 go_wp2_with fail
 go_ret
 exact ⟨rfl, rfl⟩
theorem format_any (d L : Nat) (s : Dsk) (w : World) (h : DkAt w d L s) (hn : 16 ≤ s.n) (hn2 : s.n ≤ 1000) (hd : s.dead = false) (hf : FOk s 0) (hz : ∀ i, i < s.n → s.rd i = zs 256) (hK : KAt w) :
  Calls Tryz.prog 32 #[.pointer (some ⟨d, 0, none⟩)] w fun e w' => e = .returned (.int .i64 (if s.fmt.1 then 0 else 48)) ∧ DkAt w' d L s.fmt.2 ∧ Turn [d, L] w w' := by
 have h1 := refused_any d L s w h
 rw [if_neg (by omega), hd, if_neg (by decide)] at h1
 obtain ⟨qok, qs, hq⟩ : ∃ qok qs, s.fmt = (qok, qs) := ⟨_, _, rfl⟩
 rw [hq]
 unfold Dsk.fmt at hq
 simp only
 have hmk := Tryz.prog_make 256 (by decide) w
 rw [show ((256 : Nat) : Int) = 256 from rfl] at hmk
 obtain ⟨X, hX⟩ : ∃ X, w.heap.size = X := ⟨_, rfl⟩
 obtain ⟨w1, hw1⟩ : ∃ w1, w.alloc (.cells (madeCells #[.int .u8 0] 256) 5) = w1 := ⟨_, rfl⟩
 have hO := Own.made w 256 (by decide)
 have hb1 : Below w.heap.size w w1 := by rw [← hw1]; exact (Below.refl _ _).alloc (Nat.le_refl _) _
 rw [hw1, hX] at hO hmk
 have hs1 : w1.heap.size = X + 1 := by rw [← hw1, ← hX]; simp
 have H1 := Lib.hid (And.intro (h.below hb1) (And.intro hO (And.intro (Turn.of_below [d, L] hb1) (And.intro (hK.below hb1) (And.intro hz (And.intro hn hn2))))))
 have HQ := Lib.hid hq
 have hnb : (s.n : Int) ≤ 1000 := by omega
 have hwr : ∀ (i : Nat) (W : World), i < s.n → DkAt W d L s → Own W X (.slice (some ⟨X, 0, none⟩) 256 256) (zs 256) → Calls Tryz.prog 59 #[.pointer (some ⟨d, 0, none⟩), .int .i64 (i : Int), .slice (some ⟨X, 0, none⟩) 256 256] W fun e w' => e = .returned (.bool true) ∧ (DkAt w' d L s ∧ Own w' X (.slice (some ⟨X, 0, none⟩) 256 256) (zs 256)) ∧ Turn [d, L] W w' := fun i W hi hD hO' => by
  refine (wrote_any d L s W 0 hD hf (by omega) i hi X 0 256 (zs 256) hO'.at_ (by decide) ⟨Nat.le_refl _, by decide⟩).mono ?_
  rintro e w' ⟨he, h2, h3⟩
  have hw : s.wrote i (zs 256) = (true, s) := by unfold Dsk.wrote; rw [if_pos (hz i hi)]
  rw [hw] at he h2
  exact ⟨he, ⟨h2, hO'.turn h3 (hO'.beside hD)⟩, h3⟩
 have HW := Lib.hid hwr
 have hsec : ∀ W, DkAt W d L s → Calls Tryz.prog 31 #[.pointer (some ⟨d, 0, none⟩)] W fun e w' => e = .returned (.int .i64 (s.n : Int)) ∧ W = w' := fun W hD => by
  obtain ⟨xs, hx⟩ := hD
  exact sectors_any d L xs s W hx
 have HSec := Lib.hid hsec
 have HF := Lib.hid hf
 clear h hO hb1 hK hz hn hq hwr hsec hd hf
 go_enter Tryz.func32, Tryz.ntmps32
 go_wp2_with fail
 refine h1.mono ?_
 rintro e w' ⟨rfl, rfl⟩
 clear h1
 go_wp2_with fail
 try rw [hw1]
 try rw [hX]
 clear hmk hw1
 go_wp2_with fail
 go_loopw [14] (fun kk wr => ∃ i : Nat, i ≤ 2 ∧ kk = .int .i64 (i : Int) ∧ DkAt wr d L s ∧ Own wr X (.slice (some ⟨X, 0, none⟩) 256 256) (zs 256) ∧ Turn [d, L] w1 wr) (fun kk _ => 2 - (intOf kk).toNat)
 case atStart => exact ⟨0, by omega, rfl, H1.out.1, H1.out.2.1, Turn.refl _ _⟩
 case round =>
  obtain ⟨i, hi, rfl, hD, hO, hT⟩ := hrel
  by_cases hlt : i < 2
  ·have hlti : (i : Int) < 2 := by omega
   have hltd : decide ((i : Int) < 2) = true := decide_eq_true hlti
   have hc := HW.out i wr (by have := H1.out.2.2.2.2.2.1; omega) hD hO
   have HT := Lib.hid hT
   clear hD hO hT
   go_wp2_with fail
   refine hc.mono ?_
   rintro e w2 ⟨rfl, ⟨hD, hO⟩, hT2⟩
   have H2 := Lib.hid (And.intro hD (And.intro hO (HT.out.trans hT2 (fun x hx => .inl hx))))
   clear hD hO hT2 hc
   go_wp2_with fail
   go_roundw
   case measure => simp [intOf]; omega
   exact ⟨i + 1, by omega, by simp, H2.out.1, H2.out.2.1, H2.out.2.2⟩
  ·obtain rfl : i = 2 := by omega
   have HL := Lib.hid (And.intro hD (And.intro hO (And.intro hT (H1.out.2.2.2.1.beside H1.out.1 hT))))
   clear hD hO hT
   have hs := dksync_any d L s wr 0 HL.out.1 HF.out (by omega)
   have f1 := sy_fok HF.out
   have n1 := (sy_did s).n
   have r1 := fun j => sy_rd (s := s) (j := j)
   obtain ⟨ok1, s1, hr1⟩ : ∃ ok1 s1, s.sy = (ok1, s1) := ⟨_, _, rfl⟩
   rw [hr1] at hs f1 n1 r1
   have hq := HQ.out
   rw [hr1] at hq
   simp only at hs f1 n1 r1 hq
   have HQ := Lib.hid hq
   have HR1 := Lib.hid (And.intro f1 (And.intro n1 r1))
   clear hq hr1 f1 n1 r1
   go_wp2_with fail
   refine hs.mono ?_
   rintro e w3 ⟨rfl, hD3, hT3⟩
   have H3 := Lib.hid (And.intro hD3 (And.intro (HL.out.2.1.turn hT3 (HL.out.2.1.beside HL.out.1)) (And.intro (HL.out.2.2.1.trans hT3 (fun x hx => .inl hx)) (HL.out.2.2.2.beside HL.out.1 hT3))))
   clear hD3 hT3 hs
   cases ok1 with
   | false =>
    have hq := HQ.out
    rw [if_pos rfl] at hq
    injection hq with e1 e2
    subst e1 e2
    go_wp2_with fail
    go_ret
    exact ⟨rfl, H3.out.1, H1.out.2.2.1.trans H3.out.2.2.1 (fun x hx => .inl hx)⟩
   | true =>
    have hq := HQ.out
    simp only [Bool.true_eq_false, if_false] at hq
    have HQ := Lib.hid hq
    clear hq
    have hz1 : ∀ i, i < s1.n → s1.rd i = zs 256 := fun i hi => by rw [HR1.out.2.2]; exact H1.out.2.2.2.2.1 i (by rw [← HR1.out.2.1]; exact hi)
    have hwr1 : ∀ (i : Nat) (W : World), i < s1.n → DkAt W d L s1 → Own W X (.slice (some ⟨X, 0, none⟩) 256 256) (zs 256) → Calls Tryz.prog 59 #[.pointer (some ⟨d, 0, none⟩), .int .i64 (i : Int), .slice (some ⟨X, 0, none⟩) 256 256] W fun e w' => e = .returned (.bool true) ∧ (DkAt w' d L s1 ∧ Own w' X (.slice (some ⟨X, 0, none⟩) 256 256) (zs 256)) ∧ Turn [d, L] W w' := fun i W hi hD hO' => by
     refine (wrote_any d L s1 W 1 hD HR1.out.1 (by omega) i hi X 0 256 (zs 256) hO'.at_ (by decide) ⟨Nat.le_refl _, by decide⟩).mono ?_
     rintro e w' ⟨he, h2, h3⟩
     have hw : s1.wrote i (zs 256) = (true, s1) := by unfold Dsk.wrote; rw [if_pos (hz1 i hi)]
     rw [hw] at he h2
     exact ⟨he, ⟨h2, hO'.turn h3 (hO'.beside hD)⟩, h3⟩
    have hsc : Calls Tryz.prog 31 #[.pointer (some ⟨d, 0, none⟩)] w3 fun e w' => e = .returned (.int .i64 (s.n : Int)) ∧ w3 = w' := by
     obtain ⟨xs, hx⟩ := H3.out.1
     have := sectors_any d L xs s1 w3 hx
     rw [show s1.secs.length = s.n from HR1.out.2.1] at this
     exact this
    obtain ⟨B, hB⟩ : ∃ B, (s.n - 8) / 2 = B := ⟨_, rfl⟩
    have hn16 := H1.out.2.2.2.2.2.1
    have hBi : ((s.n : Int) - 8).tdiv 2 = (B : Int) := by rw [Int.tdiv_eq_ediv_of_nonneg (by omega)]; omega
    have hBn : 8 + B ≤ s1.n := by have := HR1.out.2.1; omega
    have hBb : B ≤ 500 := by omega
    have HW1 := Lib.hid (And.intro hwr1 (And.intro hBn hB))
    clear hwr1 hz1 hBn hB hn16
    go_wp2_with fail
    refine hsc.mono ?_
    rintro e w' ⟨rfl, rfl⟩
    clear hsc
    go_wp2_with fail
    obtain ⟨wl, hwl⟩ : ∃ wl, wl = w3 := ⟨_, rfl⟩
    subst hwl
    go_loopw [31] (fun kk wr => ∃ i : Nat, i ≤ B ∧ kk = .int .i64 (i : Int) ∧ DkAt wr d L s1 ∧ Own wr X (.slice (some ⟨X, 0, none⟩) 256 256) (zs 256) ∧ Turn [d, L] wl wr) (fun kk _ => B - (intOf kk).toNat)
    case atStart => exact ⟨0, by omega, rfl, H3.out.1, H3.out.2.1, Turn.refl _ _⟩
    case round =>
     obtain ⟨i, hi, rfl, hD, hO, hT⟩ := hrel
     by_cases hlt : i < B
     ·have hlti : (i : Int) < B := by omega
      have hltd : decide ((i : Int) < (B : Int)) = true := decide_eq_true hlti
      have hsd := side_any B 0 i (by omega) (by omega) (by omega) wr
      rw [show 8 + 0 % 2 * B + i = 8 + i by omega, show ((0 : Nat) : Int) = 0 from rfl] at hsd
      have hc := HW1.out.1 (8 + i) wr (by have := HW1.out.2.1; omega) hD hO
      have HT := Lib.hid hT
      clear hD hO hT
      go_wp2_with fail
      refine hsd.mono ?_
      rintro e w' ⟨rfl, rfl⟩
      clear hsd
      go_wp2_with fail
      refine hc.mono ?_
      rintro e w2 ⟨rfl, ⟨hD, hO⟩, hT2⟩
      have H2 := Lib.hid (And.intro hD (And.intro hO (HT.out.trans hT2 (fun x hx => .inl hx))))
      clear hD hO hT2 hc
      go_wp2_with fail
      go_roundw
      case measure => simp [intOf]; omega
      exact ⟨i + 1, by omega, by simp, H2.out.1, H2.out.2.1, H2.out.2.2⟩
     ·obtain rfl : i = B := by omega
      have hlti : ¬ (i : Int) < i := by omega
      have hltd : decide ((i : Int) < (i : Int)) = false := decide_eq_false hlti
      have HL := Lib.hid (And.intro hD (And.intro (hT) (And.intro (H3.out.2.2.2.beside H3.out.1 hT) (H1.out.2.2.1.trans (H3.out.2.2.1.trans hT (fun x hx => .inl hx)) (fun x hx => .inl hx)))))
      clear hD hO hT
      have hs := dksync_any d L s1 wr 1 HL.out.1 HR1.out.1 (by omega)
      have f2 := sy_fok HR1.out.1
      have n2 := (sy_did s1).n
      have r2 := fun j => sy_rd (s := s1) (j := j)
      obtain ⟨ok2, s2, hr2⟩ : ∃ ok2 s2, s1.sy = (ok2, s2) := ⟨_, _, rfl⟩
      have hq := HQ.out
      rw [hr2] at hs f2 n2 r2 hq
      simp only at hs f2 n2 r2 hq
      have HQ := Lib.hid hq
      have HR2 := Lib.hid (And.intro f2 (And.intro n2 r2))
      clear hq hr2 f2 n2 r2
      go_wp2_with fail
      refine hs.mono ?_
      rintro e w5 ⟨rfl, hD5, hT5⟩
      have H5 := Lib.hid (And.intro hD5 (And.intro (HL.out.2.2.2.trans hT5 (fun x hx => .inl hx)) (HL.out.2.2.1.beside HL.out.1 hT5)))
      clear hD5 hT5 hs
      cases ok2 with
      | false =>
       have hq := HQ.out
       rw [if_pos rfl] at hq
       injection hq with e1 e2
       subst e1 e2
       go_wp2_with fail
       go_ret
       exact ⟨rfl, H5.out.1, H5.out.2.1⟩
      | true =>
       have hq := HQ.out
       simp only [Bool.true_eq_false, if_false] at hq
       have HQ := Lib.hid hq
       clear hq
       have hh := head_any_q 0 (by decide) w5 H5.out.2.2
       rw [show ((0 : Nat) : Int) = 0 from rfl] at hh
       go_wp2_with fail
       refine hh.mono ?_
       rintro e w6 ⟨A6, n6, c6, rfl, hO6, hb6⟩
       clear hh
       obtain rfl : n6 = 256 := by have := hO6.len; rw [headB_len] at this; exact this
       obtain ⟨b6, off6, rfl, hat6⟩ := hO6.rd.addr (by omega)
       have hne : s2.rd 0 ≠ headB 0 := by
        rw [HR2.out.2.2, HR1.out.2.2, H1.out.2.2.2.2.1 0 (by have := H1.out.2.2.2.2.2.1; omega)]; exact head0_ne
       have hn2 : 0 < s2.n := by have := HR2.out.2.1; have := HR1.out.2.1; have := H1.out.2.2.2.2.2.1; omega
       have hwo := wrote_any d L s2 w6 2 (H5.out.1.below hb6) HR2.out.1 (by omega) 0 hn2 b6 off6 c6 (headB 0) hat6 (headB_len 0) ⟨hO6.rd.2.1, hO6.rd.2.2.1⟩
       have hwe : s2.wrote 0 (headB 0) = s2.wr 0 (headB 0) := by unfold Dsk.wrote; rw [if_neg hne]
       have f3 := wr_fok HR2.out.1 0 (headB 0)
       rw [hwe] at hwo
       obtain ⟨ok3, s3, hr3⟩ : ∃ ok3 s3, s2.wr 0 (headB 0) = (ok3, s3) := ⟨_, _, rfl⟩
       have hq := HQ.out
       rw [hr3] at hwo f3 hq
       simp only at hwo f3 hq
       rw [show ((0 : Nat) : Int) = 0 from rfl] at hwo
       have HQ := Lib.hid hq
       have H6 := Lib.hid (And.intro f3 (H5.out.2.1.trans (Turn.of_below [d, L] hb6) (fun x hx => .inl hx)))
       clear hq hr3 f3 hwe hne hn2 hb6 hat6 hO6
       go_wp2_with fail
       refine hwo.mono ?_
       rintro e w7 ⟨rfl, hD7, hT7⟩
       have H7 := Lib.hid (And.intro hD7 (H6.out.2.trans hT7 (fun x hx => .inl hx)))
       clear hD7 hT7 hwo
       cases ok3 with
       | false =>
        have hq := HQ.out
        rw [if_pos rfl] at hq
        injection hq with e1 e2
        subst e1 e2
        go_wp2_with fail
        go_ret
        exact ⟨rfl, H7.out.1, H7.out.2⟩
       | true =>
        have hq := HQ.out
        simp only [Bool.true_eq_false, if_false] at hq
        have HQ := Lib.hid hq
        clear hq
        have hs := dksync_any d L s3 w7 3 H7.out.1 H6.out.1 (by omega)
        obtain ⟨ok4, s4, hr4⟩ : ∃ ok4 s4, s3.sy = (ok4, s4) := ⟨_, _, rfl⟩
        have hq := HQ.out
        rw [hr4] at hs hq
        simp only at hs
        injection hq with e1 e2
        subst e1 e2
        clear hr4
        go_wp2_with fail
        refine hs.mono ?_
        rintro e w8 ⟨rfl, hD8, hT8⟩
        have H8 := Lib.hid (And.intro hD8 (H7.out.2.trans hT8 (fun x hx => .inl hx)))
        clear hD8 hT8 hs
        cases ok4 with
        | false =>
         go_wp2_with fail
         go_ret
         exact ⟨rfl, H8.out.1, H8.out.2⟩
        | true =>
         go_wp2_with fail
         go_ret
         exact ⟨rfl, H8.out.1, H8.out.2⟩
attribute [local go_sem] Oper.semAt_some
def HeadIs (s : Dsk) (k : Nat) : Option Nat → Prop
 | none => s.rd k = zs 256
 | some c => c < 1000000 ∧ c % 2 = k ∧ s.rd k = headB c
def recArg (cl : Nat → Option Nat) (k : Nat) (args : Array Value) (_ : World) : Prop := args = #[.int .i64 ((cl k).getD 0 : Nat), .bool (cl k).isSome]
def recMine (bx d L : Nat) (s : Dsk) (_ : Nat) (W : World) : Prop := W.cell? ⟨bx, 0, none⟩ = some (.pointer (some ⟨d, 0, none⟩)) ∧ DkAt W d L s ∧ KAt W ∧ bx < W.heap.size
theorem recMine.below {bx d L k : Nat} {s : Dsk} {w w' : World} (h : recMine bx d L s k w) (hb : Below w.heap.size w w') : recMine bx d L s k w' :=
 ⟨(hb.cell (p := ⟨bx, 0, none⟩) h.2.2.2).trans h.1, h.2.1.below hb, h.2.2.1.below hb, Nat.lt_of_lt_of_le h.2.2.2 hb.size⟩
theorem word_zs : word64 ((zs 256).drop 16) 0 = 0 := by decide
theorem word_head (c : Nat) : word64 ((headB c).drop 16) 0 = UInt64.ofNat c := by
 have : (headB c).drop 16 = bytes64 (UInt64.ofNat c) ++ (headH c ++ zs 200) := by
  unfold headB headA
  rw [List.append_assoc, List.append_assoc]
  exact List.drop_left' rfl
 rw [this, word64_bytes64]
theorem slice16 (g c : Nat) (hc : 256 ≤ c) (w : World) : (Instr.slice 32 (.slice (some ⟨g, 0, none⟩) 256 c) (some (.int .i64 16)) none none).run Tryz.prog w = .ok (.slice (some ⟨g, 16, none⟩) 240 (c - 16)) w := by
 have := slice_from (some ⟨g, 0, none⟩) 256 c 16 (by omega) w
 rw [if_neg (by omega)] at this
 exact this
set_option maxHeartbeats 2000000 in
theorem records_iter (bx d L : Nat) (s : Dsk) (cl : Nat → Option Nat) (hcl : ∀ k, k < 2 → HeadIs s k (cl k)) (hn : 2 ≤ s.n) :
  Iter Tryz.prog 89 #[.pointer (some ⟨bx, 0, none⟩)] (recArg cl) (recMine bx d L s) 2 [] := by
 intro l J Jx W hJ hJx hY h0 hM
 refine callsIn_of_wp Tryz.func89 rfl trivial ?_ rfl
 simp only [Tryz.ntmps89, List.size_toArray, List.length_cons, List.length_nil, Nat.reduceAdd, Nat.reduceSub, Array.replicate_succ, Array.replicate_zero, List.push_toArray, List.append_toArray, List.nil_append, List.cons_append]
 have HM := Lib.hid hM
 have HY := Lib.hid hY
 have HC := Lib.hid hcl
 clear hM hY hcl
 gi_wp2
 gi_loopw [6] (fun i wr => ∃ k : Nat, k ≤ 2 ∧ i = .int .i64 (k : Int) ∧ J k wr ∧ recMine bx d L s k wr) (fun i _ => 2 - (intOf i).toNat)
 case atStart => exact ⟨0, by omega, rfl, h0, HM.out⟩
 case round =>
  obtain ⟨k, hk, rfl, hJk, hMk⟩ := hrel
  clear h0
  by_cases hlt : k < 2
  ·have hki : (k : Int) < 2 := by omega
   have hbx := hMk.1
   have hR := dkread_any d L s wr hMk.2.1 k (by omega)
   have hcl := HC.out k hlt
   have hyA := fun W1 (hj : J k W1) (hm : recMine bx d L s k W1) => HY.out k #[.int .i64 ((cl k).getD 0 : Nat), .bool (cl k).isSome] W1 hlt hj hm rfl
   have HK := Lib.hid (And.intro hMk hJk)
   have HA := Lib.hid hyA
   obtain ⟨r, hr⟩ : ∃ r, s.rd k = r := ⟨_, rfl⟩
   rw [hr] at hR
   clear hMk hJk hyA
   gi_wp2_with (fail)
   refine ⟨trivial, ?_⟩
   refine (callsIn_wide.2 hR).mono ?_
   rintro e w1 ⟨g1, c1, rfl, hO1, hl1, hb1⟩
   have hs16 := slice16 g1 c1 (by have := hO1.rd.2.1; omega) w1
   obtain ⟨c, hc⟩ : ∃ c, (cl k).getD 0 = c := ⟨_, rfl⟩
   obtain ⟨wh, hwh⟩ : ∃ wh, (cl k).isSome = wh := ⟨_, rfl⟩
   have hfac : c < 1000000 ∧ U64 (word64 (r.drop 16) 0) = .int .u64 (c : Int) ∧ ((wh = true ∧ c % 2 = k ∧ r = headB c) ∨ (wh = false ∧ c = 0 ∧ k = 0 ∧ r ≠ headB 0) ∨ (wh = false ∧ c = 0 ∧ k = 1)) := by
    cases hk2 : cl k with
    | none =>
     rw [hk2] at hcl hc hwh
     have hz : r = zs 256 := by rw [← hr]; exact hcl
     subst hc hwh
     refine ⟨by decide, by rw [hz, word_zs]; rfl, .inr ?_⟩
     rcases (show k = 0 ∨ k = 1 by omega) with rfl | rfl
     ·exact .inl ⟨rfl, rfl, rfl, by rw [hz]; exact head0_ne⟩
     ·exact .inr ⟨rfl, rfl, rfl⟩
    | some c' =>
     rw [hk2] at hcl hc hwh
     have hz := hcl
     subst hc hwh
     obtain ⟨z1, z2, z3⟩ := hz
     rw [hr] at z3
     refine ⟨z1, ?_, .inl ⟨rfl, z2, z3⟩⟩
     rw [z3, word_head]
     unfold U64
     rw [UInt64.toNat_ofNat', Nat.mod_eq_of_lt (show c' < 2 ^ 64 by omega)]; rfl
   obtain ⟨hc6, hU, hcase⟩ := hfac
   have hG := get64_any g1 16 240 (c1 - 16) (r.drop 16) w1 (by have := hO1.at_.drop 16; rwa [Nat.zero_add] at this) (by simp [hl1]) (by omega)
   rw [hU] at hG
   have H1 := Lib.hid (And.intro hO1.rd hb1)
   have HQ := Lib.hid (And.intro hc (And.intro hwh (And.intro hcase hr)))
   have hcm : (c : Int).tmod 2 = ((c % 2 : Nat) : Int) := by rw [Int.tmod_eq_emod_of_nonneg (by omega)]; omega
   have hcw : IntKind.i64.wrap (c : Int) = (c : Int) := IntWalk.i64_in _ (by omega)
   have hcb : (c : Int) < 1000000 := by omega
   clear hR hO1 hb1 hc hwh hcase hcl hr hU
   gi_wp2_with (fail)
   refine ⟨trivial, ?_⟩
   refine (callsIn_wide.2 hG).mono ?_
   rintro e w2 ⟨rfl, kk, hw2⟩
   have ho2 : Old w1 w2 := by rw [hw2]; exact (Old.refl w1).drewN kk
   have H2 := Lib.hid (And.intro (H1.out.1.below ho2) (H1.out.2.trans (ho2.mono H1.out.2.size)))
   clear hG hs16 hw2 ho2
   rcases HQ.out.2.2.1 with ⟨hw, hck, hre⟩ | ⟨hw, hc0, hk0, hre⟩ | ⟨hw, hc0, hk1⟩
   ·rw [hck] at hcm
    have hh := head_any_q c hc6 w2 (HK.out.1.2.2.1.below H2.out.2)
    clear hck
    gi_wp2_with (fail)
    refine ⟨trivial, ?_⟩
    refine (callsIn_wide.2 hh).mono ?_
    rintro e w3 ⟨A3, n3, c3, rfl, hO3, hb3⟩
    have heq := equalB_any (some ⟨g1, 0, none⟩) 256 c1 A3 n3 c3 r (headB c) w3 (H2.out.1.below hb3) hO3.rd
    rw [decide_eq_true hre] at heq
    have H3 := Lib.hid (H2.out.2.trans (hb3.mono H2.out.2.size))
    clear hh hO3 hb3 hre
    gi_wp2_with (fail)
    refine ⟨trivial, ?_⟩
    refine (callsIn_wide.2 heq).mono ?_
    rintro e w' ⟨rfl, rfl⟩
    clear heq
    obtain ⟨fn, tmps, assign, body, hy, hR⟩ := HA.out w3 (hJ _ _ _ HK.out.2 (Turn.of_below [] H3.out)) (HK.out.1.below H3.out)
    rw [HQ.out.1, HQ.out.2.1, hw] at hy
    have HR := Lib.hid hR
    clear hR
    gi_wp2
    refine HR.out.mono ?_
    rintro e W' (⟨rfl, hJ', hM'⟩ | ⟨rfl, hJx'⟩)
    ·have HM2 := Lib.hid (And.intro hJ' hM')
     clear hJ' hM'
     gi_wp2
     go_roundw
     case rel => exact ⟨k + 1, by omega, by go_num, HM2.out.1, HM2.out.2⟩
     case measure => simp [intOf]; omega
    ·gi_wp2
     refine bodyPost_ret (results_none rfl _ _ _) rfl ?_
     exact ⟨⟨_, rfl⟩, .inr ⟨_, hlt, hJx'⟩⟩
   ·have hh := head_any_q c hc6 w2 (HK.out.1.2.2.1.below H2.out.2)
    subst hc0 hk0
    clear hcm
    gi_wp2_with (fail)
    refine ⟨trivial, ?_⟩
    refine (callsIn_wide.2 hh).mono ?_
    rintro e w3 ⟨A3, n3, c3, rfl, hO3, hb3⟩
    have heq := equalB_any (some ⟨g1, 0, none⟩) 256 c1 A3 n3 c3 r (headB 0) w3 (H2.out.1.below hb3) hO3.rd
    rw [decide_eq_false hre] at heq
    have H3 := Lib.hid (H2.out.2.trans (hb3.mono H2.out.2.size))
    clear hh hO3 hb3 hre
    gi_wp2_with (fail)
    refine ⟨trivial, ?_⟩
    refine (callsIn_wide.2 heq).mono ?_
    rintro e w' ⟨rfl, rfl⟩
    clear heq
    obtain ⟨fn, tmps, assign, body, hy, hR⟩ := HA.out w3 (hJ _ _ _ HK.out.2 (Turn.of_below [] H3.out)) (HK.out.1.below H3.out)
    rw [HQ.out.1, HQ.out.2.1, hw, show ((0 : Nat) : Int) = 0 from rfl] at hy
    have HR := Lib.hid hR
    clear hR
    gi_wp2
    refine HR.out.mono ?_
    rintro e W' (⟨rfl, hJ', hM'⟩ | ⟨rfl, hJx'⟩)
    ·have HM2 := Lib.hid (And.intro hJ' hM')
     clear hJ' hM'
     gi_wp2
     go_roundw
     case rel => exact ⟨1, by omega, by go_num, HM2.out.1, HM2.out.2⟩
     case measure => simp [intOf]
    ·gi_wp2
     refine bodyPost_ret (results_none rfl _ _ _) rfl ?_
     exact ⟨⟨_, rfl⟩, .inr ⟨_, hlt, hJx'⟩⟩
   ·subst hc0 hk1
    clear hcm
    have H3 := Lib.hid H2.out.2
    obtain ⟨w3, hw3⟩ : ∃ w3, w3 = w2 := ⟨_, rfl⟩
    subst hw3
    obtain ⟨fn, tmps, assign, body, hy, hR⟩ := HA.out w3 (hJ _ _ _ HK.out.2 (Turn.of_below [] H3.out)) (HK.out.1.below H3.out)
    rw [HQ.out.1, HQ.out.2.1, hw, show ((0 : Nat) : Int) = 0 from rfl] at hy
    have HR := Lib.hid hR
    clear hR
    gi_wp2_with (fail)
    refine ⟨trivial, ?_⟩
    gi_wp2_with (fail)
    refine ⟨trivial, ?_⟩
    gi_wp2
    refine HR.out.mono ?_
    rintro e W' (⟨rfl, hJ', hM'⟩ | ⟨rfl, hJx'⟩)
    ·have HM2 := Lib.hid (And.intro hJ' hM')
     clear hJ' hM'
     gi_wp2
     go_roundw
     case rel => exact ⟨2, by omega, by go_num, HM2.out.1, HM2.out.2⟩
     case measure => simp [intOf]
    ·gi_wp2
     refine bodyPost_ret (results_none rfl _ _ _) rfl ?_
     exact ⟨⟨_, rfl⟩, .inr ⟨_, hlt, hJx'⟩⟩
  ·obtain rfl : k = 2 := by omega
   have HJ := Lib.hid hJk
   clear hJk hMk hk hlt
   gi_wp2
   go_end0
   exact ⟨⟨_, rfl⟩, .inl HJ.out⟩
end Go.Proofs.YtgjnmpjimhbfgaaGreatDoor
