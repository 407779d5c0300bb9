/-
  objstore: what stands on the volume: pages.
-/
import Derived.Test.YtgjnmpjimhbfgaaGreatDoorZzSm2
import Derived.Test.YtgjnmpjimhbfgaaGreatDoorZzAudP
import Derived.Test.YtgjnmpjimhbfgaaGreatDoorZzFs4
import Derived.Test.YtgjnmpjimhbfgaaGreatDoorZzEqB
namespace Go.Proofs.YtgjnmpjimhbfgaaGreatDoor
set_option maxRecDepth 100000
open Go.RowKit Go.Maps
theorem st_app16 (A : Option Addr) (n0 c0 n : Nat) (hn : n < 65536) (l : List UInt8) (w : World) (base : Nat) (h : Own w base (.slice A n0 c0) l) (hb : base ≤ w.heap.size) (hl : l.length ≤ 1000000000) :
  Calls Tryz.prog 68 #[.slice A n0 c0, .int .u16 (n : Int)] w fun e w' => ∃ A' n' c', e = .returned (.slice A' n' c') ∧ Own w' base (.slice A' n' c') (l ++ beTail n 2) ∧ Turn (Value.slice A n0 c0).ownBlock.toList w w' := by
 rw [int_U16 n hn, beTail_2 n hn]
 refine (append16_any _ _ l w base h hb (by omega)).mono ?_
 rintro e w' ⟨v', rfl, h2, h3, _⟩
 obtain ⟨A', c', rfl, _⟩ := h2.shape
 exact ⟨_, _, _, rfl, h2, h3⟩
structure Fine (M : List SRec) : Prop where
 ids : ∀ p ∈ M, 1 ≤ p.1 ∧ p.1 ≤ 65535
 len : ∀ p ∈ M, p.2.length ≤ 16384
 load : sload M ≤ 1000000
theorem Fine.num {M : List SRec} (h : Fine M) : M.length ≤ 125000 := by
 have := ents_len M
 have : ∀ M : List SRec, 8 * M.length ≤ sload M := fun M => by
  induction M with
  | nil => exact Nat.le_refl _
  | cons p M ih => rw [sload_cons, List.length_cons]; omega
 have := this M
 have := h.load
 omega
structure PgI (w wl : World) (M : List SRec) (k : Nat) (A A2 : Option Addr) (n c c2 : Nat) (l : List UInt8) : Prop where
 own : Own wl w.heap.size (.slice A n c) l
 ids : OwnE Tryz.eIr wl w.heap.size (.slice A2 M.length c2) (M.map (·.1))
 old : Old w wl
theorem PgI.step {w wl w' : World} {M : List SRec} {k n c c2 n' c' k' : Nat} {A A2 A' : Option Addr} {l l' : List UInt8} (h : PgI w wl M k A A2 n c c2 l) (ho : Own w' w.heap.size (.slice A' n' c') l') (ht : Turn (Value.slice A n c).ownBlock.toList wl w') : PgI w w' M k' A' A2 n' c' c2 l' := by
 refine ⟨ho, h.ids.turn ht (fun g hg hm => ?_), h.old.tnew ht (fun x hx => (h.own.lt (by simpa using hx)).1)⟩
 obtain ⟨cs, hcs⟩ := h.ids.blk hg
 exact h.own.ne hcs (by decide) (by simpa using hm)
theorem PgI.id_at {w wl : World} {M : List SRec} {k n c c2 : Nat} {A A2 : Option Addr} {l : List UInt8} (h : PgI w wl M k A A2 n c c2 l) {j : Nat} {p : SRec} (hp : M[j]? = some p) : ∃ g off, A2 = some ⟨g, off, none⟩ ∧ wl.cell? ⟨g, off + j, none⟩ = some (.int .i64 p.1) := by
 obtain ⟨g, off, e, _, h3⟩ := h.ids.rd.at_ (j := j) (x := p.1) (by rw [List.getElem?_map, hp]; rfl)
 have := h3 0 (by decide)
 have hs : Tryz.eIr.sz = 1 := rfl
 rw [hs, Nat.mul_one, Nat.add_zero] at this
 exact ⟨g, off, e, this⟩
theorem RMap.look {w : World} {b : Nat} {M : List SRec} (h : RMap w b M) {p : SRec} (hp : p ∈ M) :
  ∃ A c, (Instr.lookup 79 (.map (some b)) (.int .i64 p.1) false).run Tryz.prog w = .ok (.slice A p.2.length c) w ∧ Own w 0 (.slice A p.2.length c) p.2 := by
 obtain ⟨f, h1, h2⟩ := h.map
 have hw := h.ids p hp
 obtain ⟨A, m, c, e1, e2⟩ := h2.yes p.1 p.2 hw (sget_mem h.rise hp)
 obtain rfl := e2.len
 refine ⟨A, c, ?_, e2⟩
 have := h1.look1 Tryz.mR p.1 hw
 rw [e1] at this
 exact this
theorem RMap.len_ {w : World} {b : Nat} {M : List SRec} (h : RMap w b M) (ty : TypeId) : (Builtin.len_ #[79] ty #[.map (some b)]).run Tryz.prog w = .ok (.int .i64 M.length) w := by
 obtain ⟨f, h1, h2⟩ := h.map
 exact h1.len Tryz.mR ty
theorem append32_full (g off : Nat) (l : List UInt8) (x : UInt32) (w : World) (h : At w g off l) (hl : l.length ≤ 1000) :
  Calls Tryz.prog 67 #[.slice (some ⟨g, off, none⟩) l.length l.length, U32 x] w fun e w' => ∃ A' n' c', e = .returned (.slice A' n' c') ∧ Own w' w.heap.size (.slice A' n' c') (l ++ bytes32 x) ∧ Below w.heap.size w w' := by
 have hat2 : At (w.alloc (.cells #[B (x >>> 24).toUInt8, B (x >>> 16).toUInt8, B (x >>> 8).toUInt8, B x.toUInt8] 5)) w.heap.size 0 (bytes32 x) :=
  (Own.of_cells (base := 0) (l := bytes32 x) (cur := (bytes32 x).map B) (heap_alloc_new w _) (Nat.zero_le _) rfl (by simp [bytes32, maxLen]) (by simp [bytes32]) rfl).at_
 have hat := h.keep (w' := w.alloc (.cells #[B (x >>> 24).toUInt8, B (x >>> 16).toUInt8, B (x >>> 8).toUInt8, B x.toUInt8] 5)) (by simp) (Below.heap_alloc w _ g h.1)
 have HA := Lib.hid (And.intro hat hat2)
 clear hat hat2 h
 go_enter Tryz.func67, Tryz.ntmps67
 go_wp2_with (at_builtin; refine wpList_plain rfl (fun _ hK => op_app_full _ _ rfl g off l rfl HA.out.1 w.heap.size 0 4 (bytes32 x) rfl HA.out.2 (by simp [bytes32]) (by simp [bytes32]; omega) (fun c' w' ho hb => hK _ _ ?_)); have H2 := Lib.hid (And.intro ho hb); clear ho hb)
 go_wp2_with fail
 go_ret
 obtain ⟨ho, hb⟩ := H2.out
 have es : ∀ o, (w.alloc o).heap.size = w.heap.size + 1 := fun o => by simp
 rw [es] at ho hb
 exact ⟨_, _, _, rfl, ho.mono (Nat.le_succ _), ((Below.refl _ w).alloc (Nat.le_refl _) _).trans (hb.mono (Nat.le_succ _))⟩
def MIn (w : World) (mp : Option Nat) (M : List SRec) : Prop := (mp = none ∧ M = []) ∨ ∃ b, mp = some b ∧ RMap w b M
theorem MIn.below {w w' : World} {mp : Option Nat} {M : List SRec} (h : MIn w mp M) (hb : Old w w') : MIn w' mp M := by
 rcases h with h | ⟨b, e, h⟩
 ·exact .inl h
 ·exact .inr ⟨b, e, h.below hb⟩
theorem MIn.rise {w : World} {mp : Option Nat} {M : List SRec} (h : MIn w mp M) : Rising M := by
 rcases h with ⟨_, rfl⟩ | ⟨b, e, h⟩
 ·exact Rising.nil
 ·exact h.rise
theorem MIn.len {w : World} {mp : Option Nat} {M : List SRec} (h : MIn w mp M) (ty : TypeId) : (Builtin.len_ #[79] ty #[.map mp]).run Tryz.prog w = .ok (.int .i64 M.length) w := by
 rcases h with ⟨rfl, rfl⟩ | ⟨b, rfl, h⟩
 ·exact len_nilH Tryz.mR w ty
 ·exact h.len_ ty
theorem MIn.look {w : World} {mp : Option Nat} {M : List SRec} (h : MIn w mp M) {p : SRec} (hp : p ∈ M) :
  ∃ A c, (Instr.lookup 79 (.map mp) (.int .i64 p.1) false).run Tryz.prog w = .ok (.slice A p.2.length c) w ∧ Own w 0 (.slice A p.2.length c) p.2 := by
 rcases h with ⟨rfl, rfl⟩ | ⟨b, rfl, h⟩
 ·cases hp
 ·exact h.look hp
theorem MIn.ids {w : World} {mp : Option Nat} {M : List SRec} (h : MIn w mp M) (hl : M.length ≤ 100000) :
  Calls Tryz.prog 54 #[.map mp] w fun e w' => ∃ A c, e = .returned (.slice A M.length c) ∧ OwnE Tryz.eIr w' w.heap.size (.slice A M.length c) (M.map (·.1)) ∧ Old w w' := by
 rcases h with ⟨rfl, rfl⟩ | ⟨b, rfl, h⟩
 ·refine (ids_nil w).mono ?_
  rintro e w' ⟨rfl, h1⟩
  exact ⟨_, _, rfl, OwnE.nil _ _, h1⟩
 ·exact ids_any b M w h hl
theorem wrap_u16' {n : Nat} (h : n < 65536) : IntKind.u16.wrap (n : Int) = (n : Int) := by rw [wrap_u16]; omega
theorem ents_take (M : List SRec) (k : Nat) : ((M.take k).flatMap entB).length ≤ sload M := by
 have h1 := ents_len (M.take k)
 have h2 : sload M = sload (M.take k) + sload (M.drop k) := by
  have : ∀ a b : List SRec, sload (a ++ b) = sload a + sload b := fun a b => by simp [sload]
  rw [← this, List.take_append_drop]
 omega
theorem ents_snoc {M : List SRec} {k : Nat} {p : SRec} (h : M[k]? = some p) : (M.take (k + 1)).flatMap entB = (M.take k).flatMap entB ++ entB p := by
 rw [take_snoc h, List.flatMap_append]; simp
theorem PgI.mrec {w wl : World} {mp : Option Nat} {M : List SRec} {k n c c2 : Nat} {A A2 : Option Addr} {l : List UInt8} (h : PgI w wl M k A A2 n c c2 l) (hM : MIn w mp M) : MIn wl mp M := hM.below h.old
set_option maxHeartbeats 4000000 in
theorem pages_any (mp : Option Nat) (M : List SRec) (w : World) (hM : MIn w mp M) (hF : Fine M) (hN : M.length ≤ 100000) :
  Calls Tryz.prog 36 #[.map mp] w fun e w' => ∃ A n c, e = .returned (.slice A n c) ∧ Own w' w.heap.size (.slice A n c) (pagesB M) ∧ Old w w' := by
 obtain ⟨w1, hw1⟩ : ∃ w1, w.alloc (.cells (magB.map B).toArray 5 (15, 16)) = w1 := ⟨_, rfl⟩
 have hb1 : Old w w1 := by rw [← hw1]; exact (Below.refl _ _).alloc (Nat.le_refl _) _
 have hO1 : At w1 w.heap.size 0 magB := by rw [← hw1]; exact at_marked w magB (15, 16)
 have kc := fun (w : World) (C : Array Value) (n c : Nat) => Lib.run_convert_bytes_const (P := Tryz.prog) w 32 5 C n c Tryz.underlying32 Tryz.underlying5
 obtain ⟨N, hNN⟩ : ∃ N, M.length = N := ⟨_, rfl⟩
 have hln := (hM.below hb1).len
 have hap := append32_full w.heap.size 0 magB (UInt32.ofNat N) w1 hO1 (by decide)
 rw [hNN] at hln hN
 rw [show U32 (UInt32.ofNat N) = .int .u32 (N : Int) from (int_U32 N (by omega)).symm, ← beTail_4 N (by omega)] at hap
 have hmB : (magB.map B).toArray = #[.int .u8 98, .int .u8 97, .int .u8 105, .int .u8 108, .int .u8 101, .int .u8 121, .int .u8 39, .int .u8 115, .int .u8 32, .int .u8 115, .int .u8 116, .int .u8 111, .int .u8 114, .int .u8 101, .int .u8 10] := rfl
 rw [hmB] at hw1
 have hcv : IntKind.u32.wrap (N : Int) = (N : Int) := IntWalk.u32_in _ (by omega)
 have HV := Lib.hid (And.intro hb1 (And.intro hM (And.intro hF (And.intro hNN hN))))
 clear hb1 hO1 hmB hM hF
 go_enter Tryz.func36, Tryz.ntmps36
 go_wp2_with fail
 try rw [hw1]
 refine hap.mono ?_
 rintro e w2 ⟨A2, n2, c2, rfl, hO2, hb2⟩
 have hb12 : Old w w2 := Old.trans HV.out.1 hb2
 have hO2' := hO2.mono HV.out.1.size
 clear hap hw1 kc hln
 have hids := (HV.out.2.1.below hb12).ids (by rw [HV.out.2.2.2.1]; exact HV.out.2.2.2.2)
 have H2 := Lib.hid (And.intro hO2' hb12)
 clear hO2 hO2' hb12 hb2
 go_wp2_with fail
 refine hids.mono ?_
 rintro e w3 ⟨A3, c3, rfl, hO3, hb3⟩
 have hPI : PgI w w3 M 0 A2 A3 n2 c2 c3 (magB ++ beTail N 4 ++ (M.take 0).flatMap entB) := ⟨by simpa using H2.out.1.below hb3, hO3.mono H2.out.2.size, Old.trans H2.out.2 hb3⟩
 rw [HV.out.2.2.2.1]
 have H3 := Lib.hid hPI
 clear hids hO3 hb3 hPI
 go_wp2_with fail
 try go_frame
 go_loopw [3, 15] (fun lv iv wl => ∃ (k : Nat) (A4 : Option Addr) (n4 c4 : Nat), k ≤ N ∧ iv = .int .i64 (k : Int) ∧ lv = .slice A4 n4 c4 ∧ PgI w wl M k A4 A3 n4 c4 c3 (magB ++ beTail N 4 ++ (M.take k).flatMap entB)) (fun _ iv _ => N - (intOf iv).toNat)
 case atStart => exact ⟨0, A2, n2, c2, Nat.zero_le _, rfl, rfl, H3.out⟩
 case round =>
  obtain ⟨k, A4, n4, c4, hk, rfl, rfl, hI⟩ := hrel
  have HI := Lib.hid hI
  clear hI
  by_cases hlt : k < N
  ·have hlti : (k : Int) < N := by omega
   have hki : (k : Int) + 1 ≤ 100000 := by omega
   obtain ⟨p, hp⟩ : ∃ p, M[k]? = some p := ⟨_, List.getElem?_eq_getElem (by rw [HV.out.2.2.2.1]; exact hlt)⟩
   have hpm := List.mem_of_getElem? hp
   obtain ⟨g, off, rfl, hcell⟩ := HI.out.id_at hp
   obtain ⟨hid0, hid1⟩ := HV.out.2.2.1.ids p hpm
   have hlen := HV.out.2.2.1.len p hpm
   obtain ⟨x, y⟩ := p
   simp only at hid0 hid1 hlen hcell
   obtain ⟨xn, rfl⟩ : ∃ xn : Nat, x = (xn : Int) := ⟨x.toNat, by omega⟩
   have hw1 : IntKind.u16.wrap (xn : Int) = (xn : Int) := wrap_u16' (by omega)
   have hsofar : (magB ++ beTail N 4 ++ (M.take k).flatMap entB).length ≤ 2000000 := by
    have h1 := ents_take M k
    have h2 := HV.out.2.2.1.load
    rw [List.length_append, List.length_append, beTail_len]
    have : magB.length = 15 := rfl
    omega
   have HP := Lib.hid (And.intro hp (And.intro hpm (And.intro hlen hsofar)))
   clear hp hpm hlen hsofar
   go_wp2_with fail
   refine (st_app16 A4 n4 c4 xn (by omega) _ wr w.heap.size HI.out.own HI.out.old.size (by have := HP.out.2.2.2; omega)).mono ?_
   rintro e w5 ⟨A5, n5, c5, rfl, hO5, hT5⟩
   have H5 := Lib.hid (HI.out.step (k' := k) hO5 hT5)
   clear hO5 hT5
   obtain ⟨A6, c6, hlk, hO6⟩ := (H5.out.mrec HV.out.2.1).look HP.out.2.1
   obtain ⟨yl, hyl⟩ : ∃ yl, y.length = yl := ⟨_, rfl⟩
   have hyl1 : yl ≤ 16384 := by rw [← hyl]; exact HP.out.2.2.1
   have hw2 : IntKind.u16.wrap (yl : Int) = (yl : Int) := wrap_u16' (by omega)
   simp only at hlk hO6
   rw [hyl] at hlk hO6
   go_wp2_with fail
   refine (st_app16 A5 n5 c5 yl (by omega) _ w5 w.heap.size H5.out.own H5.out.old.size (by have := HP.out.2.2.2; simp only [List.length_append, beTail_len] at this ⊢; omega)).mono ?_
   rintro e w6 ⟨A7, n7, c7, rfl, hO7, hT7⟩
   have H6 := Lib.hid (H5.out.step (k' := k) hO7 hT7)
   clear hO7 hT7 hlk hO6
   obtain ⟨A8, c8, hlk, hO8⟩ := (H6.out.mrec HV.out.2.1).look HP.out.2.1
   simp only at hlk hO8
   rw [hyl] at hlk hO8
   go_wp2_with (at_builtin; go_must (refine wp_app2 (.tmp 30) (.tmp 33) w.heap.size (.slice A7 n7 c7) _ H6.out.own H6.out.old.size A8 yl c8 y hO8.rd (by have := HP.out.2.2.2; simp only [List.length_append, beTail_len] at this ⊢; omega) rfl rfl rfl rfl ?_; intro A9 n9 c9 w9 hn9 hG9; have H9 := Lib.hid hG9; clear hG9))
   go_roundw
   case measure => simp [intOf]; omega
   refine ⟨k + 1, A9, n9, c9, by omega, by simp, rfl, ?_⟩
   have hf := H6.out.step (k' := k + 1) H9.out.own (Turn.of_grown H9.out.grown)
   rw [ents_snoc HP.out.1]
   have : entB ((xn : Int), y) = beTail xn 2 ++ beTail yl 2 ++ y := by unfold entB; simp only [Int.toNat_natCast, hyl]
   rw [this]
   simpa only [List.append_assoc] using hf
  ·obtain rfl : k = N := by omega
   have hlti : ¬ ((k : Int) < k) := by omega
   go_wp2_with fail
   go_ret
   refine ⟨A4, n4, c4, rfl, ?_, HI.out.old⟩
   have := HI.out.own
   rw [List.take_of_length_le (by rw [HV.out.2.2.2.1]; exact Nat.le_refl _)] at this
   unfold pagesB
   rw [HV.out.2.2.2.1]
   exact this
end Go.Proofs.YtgjnmpjimhbfgaaGreatDoor
namespace Go.Proofs.YtgjnmpjimhbfgaaGreatDoor
set_option maxRecDepth 100000
open Go.RowKit Go.Maps
theorem Rd.st_to {w : World} {A : Option Addr} {m c k : Nat} {l : List UInt8} (h : Rd w A m c l) (hk : k ≤ m) :
  (∀ w, (Instr.slice 32 (.slice A m c) none (some (.int .i64 (k : Int))) none).run Tryz.prog w = .ok (.slice A k c) w) ∧ Rd w A k c (l.take k) := by
 have h1 := h.2.1
 refine ⟨slice_to A m c k ?_ (by omega), h.front hk⟩
 obtain ⟨_, _, _, ⟨rfl, _⟩ | ⟨b, off, rfl, h4⟩⟩ := h
 ·intro ad e; cases e
 ·intro ad e; cases e; rfl
theorem hasprefix_any (A A' : Option Addr) (m c m' c' : Nat) (l l' : List UInt8) (w : World) (h : Rd w A m c l) (h' : Rd w A' m' c' l') (hm : m' ≤ m) :
  Calls Tryz.prog 92 #[.slice A m c, .slice A' m' c'] w fun e w' => e = .returned (.bool (decide (l.take m' = l'))) ∧ w = w' := by
 obtain ⟨h1, h2⟩ := h.st_to hm
 have hi : (m' : Int) ≤ m := by omega
 have HH := Lib.hid (And.intro h' h2)
 clear h h' h2
 go_enter Tryz.func92, Tryz.ntmps92
 go_wp2_with (go_at_call 66; refine (equalB_any _ _ _ _ _ _ _ _ _ HH.out.2 HH.out.1).mono ?_; rintro e w' ⟨rfl, rfl⟩)
 go_ret
 exact ⟨rfl, rfl⟩
theorem cutprefix_any (A A' : Option Addr) (m c m' c' : Nat) (l l' r : List UInt8) (w : World) (h : Rd w A m c l) (h' : Rd w A' m' c' l') (hl : l = l' ++ r) :
  Calls Tryz.prog 70 #[.slice A m c, .slice A' m' c'] w fun e w' => ∃ B n b, e = .returned (.tuple #[.slice B n b, .bool true]) ∧ Rd w B n b r ∧ (∀ ad', B = some ad' → ∃ ad, A = some ad ∧ ad'.block = ad.block) ∧ w = w' := by
 have e1 := h.1
 have e2 := h'.1
 have hm : m' ≤ m := by rw [hl, List.length_append] at e1; omega
 obtain ⟨B, n, b, hn, hs, hr, hbl⟩ := h.cut_ex2 (k := m') hm
 have ed : l.drop m' = r := by rw [hl, e2, List.drop_left]
 rw [ed] at hr
 have hp := hasprefix_any A A' m c m' c' l l' w h h' hm
 rw [decide_eq_true (by rw [hl, e2, List.take_left])] at hp
 have HH := Lib.hid (And.intro hr hbl)
 clear h h' hr hbl e1 e2 ed hn hl
 go_enter Tryz.func70, Tryz.ntmps70
 go_wp2_with (go_at_call 92; refine hp.mono ?_; rintro e w' ⟨rfl, rfl⟩)
 refine bodyPost_ret (results_tmp2 rfl _ _ _) rfl ?_
 exact ⟨_, _, _, rfl, HH.out.1, HH.out.2, rfl⟩
theorem byte_of (n k : Nat) : (UInt8.ofNat (n / 256 ^ k)).toNat = n / 256 ^ k % 256 := by rw [UInt8.toNat_ofNat']
theorem st_get16 (A : Option Addr) (m c n : Nat) (l r : List UInt8) (w : World) (h : Rd w A m c l) (hl : l = beTail n 2 ++ r) (hn : n < 65536) :
  Calls Tryz.prog 72 #[.slice A m c] w fun e w' => e = .returned (.int .u16 (n : Int)) ∧ ∃ k, w' = w.drewN k := by
 have hm : m = r.length + 2 := by rw [h.1, hl, List.length_append, beTail_len]; omega
 obtain ⟨b, off, rfl, hat⟩ := h.addr (by omega)
 refine (get16_any b off m c l w hat h.1 (by omega)).mono ?_
 rintro e w' ⟨rfl, hk⟩
 refine ⟨?_, hk⟩
 rw [U16_eq (n := (n : Int)) ?_]
 rw [word16_nat, hl]
 simp only [beTail, List.cons_append, List.nil_append, List.getD_cons_zero, List.getD_cons_succ, byte_of, Nat.zero_add]
 omega
theorem st_get32 (A : Option Addr) (m c n : Nat) (l r : List UInt8) (w : World) (h : Rd w A m c l) (hl : l = beTail n 4 ++ r) (hn : n < 4294967296) :
  Calls Tryz.prog 71 #[.slice A m c] w fun e w' => e = .returned (.int .u32 (n : Int)) ∧ ∃ k, w' = w.drewN k := by
 have hm : m = r.length + 4 := by rw [h.1, hl, List.length_append, beTail_len]; omega
 obtain ⟨b, off, rfl, hat⟩ := h.addr (by omega)
 refine (get32_any b off m c l w hat h.1 (by omega)).mono ?_
 rintro e w' ⟨rfl, hk⟩
 refine ⟨?_, hk⟩
 have : (word32 l 0).toNat = n := by
  rw [word32_nat, hl]
  simp only [beTail, List.cons_append, List.nil_append, List.getD_cons_zero, List.getD_cons_succ, byte_of, Nat.zero_add]
  omega
 unfold U32
 rw [this]
end Go.Proofs.YtgjnmpjimhbfgaaGreatDoor
namespace Go.Proofs.YtgjnmpjimhbfgaaGreatDoor
set_option maxRecDepth 100000
open Go.RowKit Go.Maps
def restB (M : List SRec) (k : Nat) (tl : List UInt8) : List UInt8 := (M.drop k).flatMap entB ++ tl
theorem restB_cons {M : List SRec} {k : Nat} {p : SRec} (h : M[k]? = some p) (tl : List UInt8) : restB M k tl = beTail p.1.toNat 2 ++ (beTail p.2.length 2 ++ (p.2 ++ restB M (k + 1) tl)) := by
 obtain ⟨hk, e⟩ := List.getElem?_eq_some_iff.1 h
 unfold restB
 rw [List.drop_eq_getElem_cons hk, e, List.flatMap_cons]
 unfold entB
 simp only [List.append_assoc]
structure RdI (w wl : World) (M : List SRec) (k B : Nat) (tl : List UInt8) (A : Option Addr) (n c : Nat) : Prop where
 rd : Rd wl A n c (restB M k tl)
 map : RMap wl B (M.take k)
 old : Old w wl
 new : w.heap.size ≤ B
 low : ∀ ad, A = some ad → ad.block < w.heap.size
theorem take_rising_put {M : List SRec} {k : Nat} {p : SRec} (hM : Rising M) (h : M[k]? = some p) : sput (M.take k) p.1 p.2 = M.take (k + 1) := by
 rw [take_snoc h, sput_end]
 intro q hq
 have hM' := hM.take (k + 1)
 rw [take_snoc h] at hM'
 exact (List.pairwise_append.1 hM').2.2 q hq p (by simp)
theorem sget_isSome {M : List SRec} {x : Int} : (sget M x).isSome = true ↔ ∃ p ∈ M, p.1 = x := by
 rw [sget_iff]; simp
theorem sput_len {M : List SRec} (h : Rising M) (x : Int) (l : List UInt8) : (sput M x l).length = if (sget M x).isSome then M.length else M.length + 1 := by
 induction M with
 | nil => rfl
 | cons p M ih =>
  obtain ⟨h1, h2⟩ := List.pairwise_cons.1 h
  unfold sput
  rw [sget_cons]
  by_cases e1 : p.1 < x
  ·rw [if_pos e1, if_neg (show ¬ p.1 = x by omega), List.length_cons, ih h2]
   split <;> simp
  ·rw [if_neg e1]
   by_cases e2 : p.1 = x
   ·rw [if_pos e2, if_pos e2]; simp
   ·rw [if_neg e2, if_neg e2, sget_lt (fun q hq => by have := h1 q hq; omega)]
    simp
theorem sput_ids {M : List SRec} {x : Int} {l : List UInt8} (hM : ∀ p ∈ M, wfI p.1) (hx : wfI x) : ∀ p ∈ sput M x l, wfI p.1 := fun p hp => by
 rcases sput_mem hp with rfl | hp
 ·exact hx
 ·exact hM p hp
theorem Recs.isS {W : World} {M : List SRec} {f : Int → Option Value} (h : Recs W M f) {x : Int} (hx : wfI x) : (f x).isSome = (sget M x).isSome := by
 cases hs : sget M x with
 | none => rw [h.no x hx hs]; rfl
 | some l =>
  obtain ⟨A, m, c, h1, h2⟩ := h.yes x l hx hs
  rw [h1]; rfl
theorem Recs.put {W : World} {M : List SRec} {f : Int → Option Value} (h : Recs W M f) (hM : Rising M) (x : Int) (l : List UInt8) {A : Option Addr} {m c : Nat} (hv : Own W 0 (.slice A m c) l) : Recs W (sput M x l) (putH f x (.slice A m c)) := by
 refine ⟨fun y hy hs => ?_, fun y b hy hs => ?_⟩
 ·rw [sget_put hM] at hs
  unfold putH
  by_cases e : y = x
  ·rw [if_pos e] at hs; cases hs
  ·rw [if_neg e] at hs ⊢
   exact h.no y hy hs
 ·rw [sget_put hM] at hs
  unfold putH
  by_cases e : y = x
  ·rw [if_pos e] at hs ⊢
   injection hs with hs
   subst hs
   exact ⟨A, m, c, rfl, hv⟩
  ·rw [if_neg e] at hs ⊢
   exact h.yes y b hy hs
section
variable {ops : Array Oper} {rest : List Oper} {o : Oper} {a : Act} {w : World} {Q : Exit → Act → World → Prop}
theorem wp_rput {b : Nat} {M : List SRec} (m k v : Operand) (x : Int) (A : Option Addr) (n c : Nat) (l : List UInt8) (h : RMap w b M) (hn : M.length ≤ 1000000) (hx : wfI x) (hl : Own w 0 (.slice A n c) l) (hgd : o.guard = none)
  (ho : o.op = .mapUpdate 79 m k v) (hm : a.eval m = .map (some b)) (hk : a.eval k = .int .i64 x) (hv : a.eval v = .slice A n c)
  (hK : ∀ w', RMap w' b (sput M x l) → Turn [b] w w' → wpList Tryz.prog ops Q rest (a.put o.dst undef) w') : wpList Tryz.prog ops Q (o :: rest) a w := by
 obtain ⟨f, h1, h2⟩ := h.map
 refine wp_putH Tryz.mR m k v x (.slice A n c) h1 (by unfold maxLen; omega) hx hgd ho hm hk hv (fun w' h3 hT => hK w' ⟨h.rise.put x l, sput_ids h.ids hx, putH f x (.slice A n c), ?_, ?_⟩ hT)
 ·rw [sput_len h.rise, ← h2.isS hx]; exact h3
 ·refine Recs.put (h2.turn hT (fun g hg => .inl (by simp at hg; rw [hg]; exact h1.noRow))) h.rise x l (hl.turn hT (fun g hg hm => ?_))
  simp at hm
  rw [hm] at hg
  exact hl.notin h1.noRow hg
end
set_option maxHeartbeats 4000000 in
theorem read_any (A : Option Addr) (m c : Nat) (M : List SRec) (tl : List UInt8) (w : World) (hr : Rd w A m c (pagesB M ++ tl)) (hF : Fine M) (hM : Rising M) (hN : M.length ≤ 100000) (hm : m ≤ 1000000) :
  Calls Tryz.prog 39 #[.slice A m c] w fun e w' => ∃ B, e = .returned (.tuple #[.map (some B), .bool true]) ∧ RMap w' B M ∧ w.heap.size ≤ B ∧ Old w w' := by
 obtain ⟨w1, hw1⟩ : ∃ w1, w.alloc (.cells (magB.map B).toArray 5 (15, 16)) = w1 := ⟨_, rfl⟩
 have hb1 : Old w w1 := by rw [← hw1]; exact (Below.refl _ _).alloc (Nat.le_refl _) _
 have hO1 : At w1 w.heap.size 0 magB := by rw [← hw1]; exact at_marked w magB (15, 16)
 have kc := fun (w : World) (C : Array Value) (n c : Nat) => Lib.run_convert_bytes_const (P := Tryz.prog) w 32 5 C n c Tryz.underlying32 Tryz.underlying5
 obtain ⟨N, hNN⟩ : ∃ N, M.length = N := ⟨_, rfl⟩
 rw [hNN] at hN
 have hrm : Rd w1 (some ⟨w.heap.size, 0, none⟩) 15 15 magB := ⟨rfl, Nat.le_refl _, by unfold maxLen; omega, .inr ⟨_, _, rfl, hO1⟩⟩
 have hcp := cutprefix_any A (some ⟨w.heap.size, 0, none⟩) m c 15 15 (pagesB M ++ tl) magB (beTail N 4 ++ restB M 0 tl) w1 (hr.below hb1) hrm (by unfold pagesB restB; rw [hNN, List.drop_zero]; simp only [List.append_assoc])
 have hmB : (magB.map B).toArray = #[.int .u8 98, .int .u8 97, .int .u8 105, .int .u8 108, .int .u8 101, .int .u8 121, .int .u8 39, .int .u8 115, .int .u8 32, .int .u8 115, .int .u8 116, .int .u8 111, .int .u8 114, .int .u8 101, .int .u8 10] := rfl
 rw [hmB] at hw1
 have hmp : (restB M 0 tl).length + 4 ≤ 1000000 := by
  have h1 := hr.1
  unfold pagesB at h1
  unfold restB
  rw [List.drop_zero]
  simp only [List.length_append, beTail_len] at h1 ⊢
  have : magB.length = 15 := rfl
  omega
 have HV := Lib.hid (And.intro hb1 (And.intro hM (And.intro hF (And.intro hNN (And.intro hN (And.intro hmp (fun ad had => hr.lt ad had)))))))
 clear hb1 hO1 hmB hM hF hr hrm hmp
 have hmm := @run_makeMap Tryz.prog
 go_enter Tryz.func39, Tryz.ntmps39
 go_wp2_with fail
 try rw [hw1]
 refine hcp.mono ?_
 rintro e w2 ⟨B2, n2, c2, rfl, hR2, hbl2, rfl⟩
 have hn2 := hR2.1
 rw [List.length_append, beTail_len] at hn2
 have hlt : ¬ ((n2 : Int) < 4) := by omega
 obtain ⟨B3, n3, c3, hn3, hsl3, hR3, hbl3⟩ := hR2.cut_ex2 (k := 4) (by omega)
 have hlow : ∀ ad, B3 = some ad → ad.block < w.heap.size := fun ad had => by
  obtain ⟨ad2, h2, e2⟩ := hbl3 ad had
  obtain ⟨ad1, h1, e1⟩ := hbl2 ad2 h2
  rw [e2, e1]; exact HV.out.2.2.2.2.2.2 ad1 h1
 rw [show (beTail N 4 ++ restB M 0 tl).drop 4 = restB M 0 tl from List.drop_left' (beTail_len N 4)] at hR3
 obtain ⟨wm, hwm⟩ : ∃ wm, w1.alloc (.map #[] 0) = wm := ⟨_, rfl⟩
 have hbm : Old w1 wm := by rw [← hwm]; exact (Old.refl _).alloc _
 have hRM : RMap wm w1.heap.size [] := by rw [← hwm]; exact RMap.made w1
 have hg32 := st_get32 B2 n2 c2 N _ _ wm (hR2.below hbm) rfl (by omega)
 have hsl3' := hsl3
 rw [show ((4 : Nat) : Int) = 4 from rfl] at hsl3'
 have HI0 := Lib.hid (show RdI w wm M 0 w1.heap.size tl B3 n3 c3 from ⟨hR3.below hbm, hRM, Old.trans HV.out.1 hbm, HV.out.1.size, hlow⟩)
 have HM := Lib.hid hRM
 clear kc hcp hw1 hbl2 hbl3 hlow hR2 hR3 hn2 hn3 hbm hsl3 hRM
 go_wp2_with (first | (go_at_call 71; (try rw [hwm]); refine hg32.mono ?_; rintro e w4 ⟨rfl, kd, rfl⟩))
 try go_frame
 clear hmm
 obtain ⟨X, hX⟩ : ∃ X, w1.heap.size = X := ⟨_, rfl⟩
 rw [hX] at HI0 HM
 rw [hX]
 go_loopw [4, 30] (fun lv iv wl => ∃ (k : Nat) (A4 : Option Addr) (n4 c4 : Nat), k ≤ N ∧ iv = .int .u32 (k : Int) ∧ lv = .slice A4 n4 c4 ∧ RdI w wl M k X tl A4 n4 c4) (fun _ iv _ => N - (intOf iv).toNat)
 case atStart => exact ⟨0, B3, n3, c3, Nat.zero_le _, rfl, rfl, ⟨HI0.out.rd, HI0.out.map.below ((Old.refl _).drewN kd), HI0.out.old.drewN kd, HI0.out.new, HI0.out.low⟩⟩
 case round =>
  obtain ⟨k, A4, n4, c4, hk, rfl, rfl, hI⟩ := hrel
  have HI := Lib.hid hI
  clear hI
  by_cases hlt : k < N
  ·have hlti : (k : Int) < N := by omega
   have hki : (k : Int) + 1 ≤ 100000 := by have := HV.out.2.2.2.2.1; omega
   obtain ⟨p, hp⟩ : ∃ p, M[k]? = some p := ⟨_, List.getElem?_eq_getElem (by rw [HV.out.2.2.2.1]; exact hlt)⟩
   have hpm := List.mem_of_getElem? hp
   obtain ⟨hid0, hid1⟩ := HV.out.2.2.1.ids p hpm
   have hlen := HV.out.2.2.1.len p hpm
   have hrr := HI.out.rd
   rw [restB_cons hp] at hrr
   obtain ⟨x, y⟩ := p
   simp only at hid0 hid1 hlen hrr
   obtain ⟨xn, rfl⟩ : ∃ xn : Nat, x = (xn : Int) := ⟨x.toNat, by omega⟩
   rw [Int.toNat_natCast] at hrr
   obtain ⟨yl, hyl⟩ : ∃ yl, y.length = yl := ⟨_, rfl⟩
   rw [hyl] at hrr hlen
   have hn4 := hrr.1
   simp only [List.length_append, beTail_len, hyl] at hn4
   have h4a : ¬ ((n4 : Int) < 4) := by omega
   obtain ⟨B5, n5, c5, hn5, hsl5, hR5⟩ := hrr.cut_ex (k := 2) (by omega)
   obtain ⟨B6, n6, c6, hn6, hsl6, hR6, hbl6⟩ := hrr.cut_ex2 (k := 4) (by omega)
   rw [List.drop_left' (beTail_len xn 2)] at hR5
   rw [show (beTail xn 2 ++ (beTail yl 2 ++ (y ++ restB M (k + 1) tl))).drop 4 = y ++ restB M (k + 1) tl from by rw [← List.append_assoc]; exact List.drop_left' (by simp [beTail_len])] at hR6
   have h6a : ¬ ((n6 : Int) < yl) := by have := hR6.1; rw [List.length_append, hyl] at this; omega
   have h6b : yl ≤ n6 := by have := hR6.1; rw [List.length_append, hyl] at this; omega
   obtain ⟨hsl7, hR7⟩ := hR6.st_to h6b
   obtain ⟨B8, n8, c8, hn8, hsl8, hR8, hbl8⟩ := hR6.cut_ex2 (k := yl) h6b
   have hlow : ∀ ad, B8 = some ad → ad.block < w.heap.size := fun ad had => by
    obtain ⟨ad2, h2, e2⟩ := hbl8 ad had
    obtain ⟨ad1, h1, e1⟩ := hbl6 ad2 h2
    rw [e2, e1]; exact HI.out.low ad1 h1
   rw [List.take_left' hyl] at hR7
   rw [List.drop_left' hyl] at hR8
   rw [show ((2 : Nat) : Int) = 2 from rfl] at hsl5
   rw [show ((4 : Nat) : Int) = 4 from rfl] at hsl6
   have HP := Lib.hid (And.intro hp (And.intro hpm (And.intro hlen (And.intro hyl (And.intro hrr (And.intro hR5 (And.intro hR7 (And.intro hR8 hlow))))))))
   have HS := Lib.hid (And.intro hsl5 (And.intro hsl6 (And.intro hsl7 hsl8)))
   have hnn : n4 = n6 + 4 := by omega
   have Hn4 := Lib.hid hnn
   clear hbl6 hbl8 hlow hp hpm hlen hyl hrr hR5 hR6 hR7 hR8 hn4 hn5 hn6 hn8 hsl5 hsl6 hsl7 hsl8 h6b hnn
   go_wp2_with fail
   refine region_old (by kernel_rfl) (fun wd hHeld hSz => ?_)
   have HSz := Lib.hid hSz
   clear hSz
   refine tkS 0 hHeld ?_
   refine tkS 3 hHeld ?_
   refine tkS 4 hHeld ?_ (hy := by intro wq hSw; have hRun := HS.out.1 wq; clear hSw; go_simp; try with_reducible rfl)
   refine rdL 1 (fun K hK => ?_)
   go_simp
   refine (st_get16 A4 n4 c4 xn _ _ _ (HP.out.2.2.2.2.1.below hHeld) rfl (by omega)).mono ?_
   rintro e w' ⟨rfl, kd1, rfl⟩
   refine hK.out _ _ (Old.drewN hHeld kd1) (fun hHeld => ?_)
   clear hK K
   try simp only [Act.put, sA, sB, sC]
   refine tkS 2 hHeld ?_
   refine rdL 5 (fun K hK => ?_)
   go_simp
   refine (st_get16 B5 n5 c5 yl _ _ _ (HP.out.2.2.2.2.2.1.below hHeld) rfl (by have := HP.out.2.2.1; omega)).mono ?_
   rintro e w' ⟨rfl, kd2, rfl⟩
   refine hK.out _ _ (Old.drewN hHeld kd2) (fun hHeld => ?_)
   clear hK K
   try simp only [Act.put, sA, sB, sC]
   refine tkS 6 hHeld ?_
   refine tkS 7 hHeld ?_
   refine tkS 8 hHeld ?_
   refine wpAnyH_done (by kernel_rfl) ?_ _
   refine NoPanic.normal ?_
   obtain ⟨wz, hwz⟩ : ∃ wz, (wd.drewN kd1).drewN kd2 = wz := ⟨_, rfl⟩
   rw [hwz] at hHeld ⊢
   have Hd := Lib.hid hHeld
   clear hHeld HSz hwz
   rw [IntWalk.i64_in (xn : Int) (by omega), IntWalk.i64_in (yl : Int) (by have := HP.out.2.2.1; omega)]
   simp only [Exit.then]
   try go_at_K
   have hrd := HP.out.2.2.2.2.2.2.1.below Hd.out
   have hcl := rclone_own B6 yl c6 y _ hrd (by have := HP.out.2.2.1; omega)
   have hmp := HI.out.map.below Hd.out
   have Hid := Lib.hid (And.intro hid0 (And.intro hid1 hki))
   have Hh6 := Lib.hid (And.intro h4a h6a)
   clear hid0 hid1 hki h4a h6a
   have hs6 := HS.out.2.1
   have hs7 := HS.out.2.2.1
   have hs8 := HS.out.2.2.2
   have h6i := Hh6.out.2
   go_wp2_with (first
    | (go_at_call 43; refine hcl.mono ?_; rintro e w7 ⟨B7, c7, rfl, hO7, hB7⟩; rw [HP.out.2.2.2.1] at hO7 ⊢; have H7 := Lib.hid (And.intro hO7 (And.intro hB7 (hmp.below hB7))); clear hO7 hB7)
    | (at_mapUpdate; go_must (refine wp_rput (.tmp 48) (.tmp 49) (.tmp 53) (xn : Int) B7 yl c7 y H7.out.2.2 (by rw [List.length_take]; omega) (by have := Hid.out; exact wfI_in (by omega) (by omega)) (H7.out.1.mono (Nat.zero_le _)) rfl rfl rfl rfl rfl ?_); intro w8 hM8 hT8; have H8 := Lib.hid (And.intro hM8 hT8); clear hM8 hT8))
   go_roundw
   case measure => simp [intOf]; omega
   refine ⟨k + 1, B8, n8, c8, by omega, by simp, rfl, ?_, ?_, ?_, HI.out.new, HP.out.2.2.2.2.2.2.2.2⟩
   ·exact ((HP.out.2.2.2.2.2.2.2.1.below Hd.out).below H7.out.2.1).turn H8.out.2 (fun ad had => by have h1 := HP.out.2.2.2.2.2.2.2.2 ad had; have h2 := HI.out.new; simp; omega)
   ·have h8 := H8.out.1
    have ht := take_rising_put HV.out.2.1 HP.out.1
    simp only at ht
    rw [ht] at h8
    exact h8
   ·exact (Old.trans (Old.trans HI.out.old Hd.out) H7.out.2.1).tnew H8.out.2 (fun x hx => by simp at hx; rw [hx]; exact HI.out.new)
  ·obtain rfl : k = N := by omega
   have hlti : ¬ ((k : Int) < k) := by omega
   go_wp2_with fail
   refine bodyPost_ret (results_tmp2 rfl _ _ _) rfl ?_
   refine ⟨X, rfl, ?_, HI.out.new, HI.out.old⟩
   have := HI.out.map
   rwa [List.take_of_length_le (by rw [HV.out.2.2.2.1]; exact Nat.le_refl _)] at this
end Go.Proofs.YtgjnmpjimhbfgaaGreatDoor
