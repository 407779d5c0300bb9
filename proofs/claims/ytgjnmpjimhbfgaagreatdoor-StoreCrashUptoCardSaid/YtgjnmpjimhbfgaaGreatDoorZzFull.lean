/-
  Contracts of the small functions of package disk, and of bytes.Clone.
-/
import Derived.Test.YtgjnmpjimhbfgaaGreatDoorZzWBe
import Derived.Test.YtgjnmpjimhbfgaaGreatDoorRows
namespace Go.Proofs.YtgjnmpjimhbfgaaGreatDoor
set_option maxRecDepth 100000
open Go.RowKit
theorem zeros_any (v : Value) (o : Option (List UInt8)) (w : World) (h : Byt w v o) (hc : ∀ l, o = some l → l.length ≤ 140737488351232) :
  Calls Tryz.prog 91 #[v] w fun e w' =>
   ∃ g c', e = .returned (.slice (some ⟨g, 0, none⟩) (o.getD (zs 256)).length c') ∧ Own w' w.heap.size (.slice (some ⟨g, 0, none⟩) (o.getD (zs 256)).length c') (o.getD (zs 256)) ∧ Below w.heap.size w w' := by
 have hE := eqNilBytes
 cases o with
 | none =>
  cases h
  have hM := Tryz.prog_make 256 (by omega)
  rw [show ((256 : Nat) : Int) = 256 from rfl] at hM
  go_enter Tryz.func91, Tryz.ntmps91
  go_wp2
  go_ret
  have h256 : ((none : Option (List UInt8)).getD (zs 256)).length = 256 := zs_len 256
  rw [h256]
  exact ⟨_, _, rfl, Own.made w 256 (by unfold maxLen; omega), (Below.refl _ _).alloc (Nat.le_refl _) _⟩
 | some l =>
  obtain ⟨b, c, rfl, ha⟩ := h.some_form
  have hl := hc l rfl
  clear hc h
  go_enter Tryz.func91, Tryz.ntmps91
  go_wp2_with (go_at_call 43; refine (clone_any b 0 l.length c l _ ha rfl (by omega)).mono ?_; rintro e w' ⟨g, c', rfl, h1, h3⟩)
  go_ret
  exact ⟨_, _, rfl, h1, h3⟩
structure Sec where
 now : Option (List UInt8)
 syn : Option (List UInt8)
 dirty : Bool
structure Dsk where
 secs : List Sec
 fused : Bool
 left : Int
 dead : Bool
 count : Nat
abbrev SecV := Value × Value × Bool
def encS (xs : List SecV) : List Value := xs.flatMap fun x => [x.1, x.2.1, .bool x.2.2]
theorem encS_cons (x : SecV) (xs : List SecV) : encS (x :: xs) = x.1 :: x.2.1 :: .bool x.2.2 :: encS xs := rfl
theorem encS_get (xs : List SecV) (i : Nat) (x : SecV) (h : xs[i]? = some x) :
  (encS xs)[i * 3]? = some x.1 ∧ (encS xs)[i * 3 + 1]? = some x.2.1 ∧ (encS xs)[i * 3 + 2]? = some (.bool x.2.2) := by
 induction xs generalizing i with
 | nil => simp at h
 | cons y ys ih =>
  cases i with
  | zero => simp at h; subst h; simp [encS_cons]
  | succ i =>
   have := ih i (by simpa using h)
   have e0 : (i + 1) * 3 = i * 3 + 1 + 1 + 1 := by omega
   rw [encS_cons, e0]
   simpa [List.getElem?_cons_succ] using this
theorem encS_set (xs : List SecV) (i : Nat) (x : SecV) (h : xs[i]? = some x) (v : Value) (b : Bool) :
  (encS xs).set (i * 3) v = encS (xs.set i (v, x.2)) ∧ (encS xs).set (i * 3 + 1) v = encS (xs.set i (x.1, v, x.2.2)) ∧ (encS xs).set (i * 3 + 2) (.bool b) = encS (xs.set i (x.1, x.2.1, b)) := by
 induction xs generalizing i with
 | nil => simp at h
 | cons y ys ih =>
  cases i with
  | zero => simp at h; subst h; simp [encS_cons]
  | succ i =>
   have := ih i (by simpa using h)
   have e0 : (i + 1) * 3 = i * 3 + 1 + 1 + 1 := by omega
   rw [encS_cons, e0]
   simp only [List.set_cons_succ, encS_cons]
   exact ⟨by rw [this.1], by rw [this.2.1], by rw [this.2.2]⟩
def SecsOk (w : World) (xs : List SecV) (ss : List Sec) : Prop :=
 xs.length = ss.length ∧ ∀ (i : Nat) (x : SecV) (s : Sec), xs[i]? = some x → ss[i]? = some s → Byt w x.1 s.now ∧ Byt w x.2.1 s.syn ∧ x.2.2 = s.dirty ∧ (∀ l, s.now = some l → l.length = 256) ∧ (∀ l, s.syn = some l → l.length = 256)
def DiskAt (w : World) (d L : Nat) (xs : List SecV) (s : Dsk) : Prop :=
 Blk w d 70 #[.slice (some ⟨L, 0, none⟩) s.secs.length s.secs.length, .bool s.fused, .int .i64 s.left, .bool s.dead, .int .i64 s.count] ∧
 Blk w L 99 (encS xs).toArray ∧ SecsOk w xs s.secs ∧ 0 < s.secs.length ∧ s.secs.length ≤ 65536
theorem SecsOk.below {w w' : World} {xs : List SecV} {ss : List Sec} (h : SecsOk w xs ss) (hb : Below w.heap.size w w') : SecsOk w' xs ss :=
 ⟨h.1, fun i x s hx hs => let ⟨a, b, c⟩ := h.2 i x s hx hs; ⟨a.below hb, b.below hb, c⟩⟩
theorem DiskAt.below {w w' : World} {d L : Nat} {xs : List SecV} {s : Dsk} (h : DiskAt w d L xs s) (hb : Below w.heap.size w w') : DiskAt w' d L xs s :=
 ⟨h.1.below hb, h.2.1.below hb, h.2.2.1.below hb, h.2.2.2⟩
theorem DiskAt.turn {w w' : World} {d L : Nat} {xs : List SecV} {s : Dsk} (h : DiskAt w d L xs s) {S : List Nat} (ht : Turn S w w') (hd : d ∉ S) (hL : L ∉ S)
  (hS : ∀ g ∈ S, ∃ t cs, Blk w g t cs ∧ t ≠ 5) : DiskAt w' d L xs s := by
 have ne : ∀ {v : Value} {o : Option (List UInt8)}, Byt w v o → ∀ g, v.ownBlock = some g → g ∉ S := by
  intro v o hv g hg hm
  obtain ⟨t, cs, hb, hne⟩ := hS g hm
  exact hv.ne hb hne hg
 exact ⟨h.1.turn ht hd, h.2.1.turn ht hL, ⟨h.2.2.1.1, fun i x s hx hs => let ⟨a, b, c⟩ := h.2.2.1.2 i x s hx hs; ⟨a.turn ht (ne a), b.turn ht (ne b), c⟩⟩, h.2.2.2⟩
theorem DiskAt.head {w w' : World} {d L : Nat} {xs : List SecV} {s s' : Dsk} (h : DiskAt w d L xs s) (ht : Turn [d] w w')
  (hb : Blk w' d 70 #[.slice (some ⟨L, 0, none⟩) s.secs.length s.secs.length, .bool s'.fused, .int .i64 s'.left, .bool s'.dead, .int .i64 s'.count]) (hs : s'.secs = s.secs) : DiskAt w' d L xs s' := by
 obtain ⟨h1, h2, h3, h4⟩ := h
 have hne : L ≠ d := h2.ne_ h1 (by decide)
 have ne : ∀ {v : Value} {o : Option (List UInt8)}, Byt w v o → ∀ g, v.ownBlock = some g → g ∉ [d] := by
  intro v o hv g hg hm
  simp at hm; subst hm
  exact hv.ne h1 (by decide) hg
 refine ⟨by rw [hs]; exact hb, h2.turn ht (by simpa using hne), ?_, by rw [hs]; exact h4⟩
 rw [hs]
 exact ⟨h3.1, fun i x s hx hs => let ⟨a, b, c⟩ := h3.2 i x s hx hs; ⟨a.turn ht (ne a), b.turn ht (ne b), c⟩⟩
theorem sectors_any (d L : Nat) (xs : List SecV) (s : Dsk) (w : World) (h : DiskAt w d L xs s) :
  Calls Tryz.prog 31 #[.pointer (some ⟨d, 0, none⟩)] w fun e w' => e = .returned (.int .i64 s.secs.length) ∧ w = w' := by
 have h0 := h.1.cell 0
 simp at h0
 clear h
 go_enter Tryz.func31, Tryz.ntmps31
 go_wp2
 go_ret
 exact ⟨rfl, rfl⟩
theorem dead_any (d L : Nat) (xs : List SecV) (s : Dsk) (w : World) (h : DiskAt w d L xs s) :
  Calls Tryz.prog 57 #[.pointer (some ⟨d, 0, none⟩)] w fun e w' => e = .returned (.bool s.dead) ∧ w = w' := by
 have h0 := h.1.cell 3
 simp at h0
 clear h
 go_enter Tryz.func57, Tryz.ntmps57
 go_wp2
 go_ret
 exact ⟨rfl, rfl⟩
def Sec.read (s : Sec) : List UInt8 := s.now.getD (zs 256)
theorem read_in (d L : Nat) (xs : List SecV) (s : Dsk) (w : World) (h : DiskAt w d L xs s) (i : Nat) (hi : i < s.secs.length) :
  Calls Tryz.prog 69 #[.pointer (some ⟨d, 0, none⟩), .int .i64 i] w fun e w' =>
   ∃ g c', e = .returned (.slice (some ⟨g, 0, none⟩) 256 c') ∧ Own w' w.heap.size (.slice (some ⟨g, 0, none⟩) 256 c') s.secs[i].read ∧ s.secs[i].read.length = 256 ∧ Below w.heap.size w w' := by
 have h0 := h.1.cell 0
 simp at h0
 obtain ⟨x, hx⟩ : ∃ x, xs[i]? = some x := ⟨_, List.getElem?_eq_getElem (by rw [h.2.2.1.1]; exact hi)⟩
 have hs := h.2.2.1.2 i x _ hx (List.getElem?_eq_getElem hi)
 have h1 := h.2.1.cell (i * 3)
 rw [List.getElem?_toArray, (encS_get xs i x hx).1] at h1
 have hlen := h.2.2.2.2
 have hii : (i : Int) < s.secs.length := by omega
 have H := Lib.hid hx
 clear hx
 go_enter Tryz.func69, Tryz.ntmps69
 go_wp2_with (go_at_call 31; refine (sectors_any d L xs s _ h).mono ?_; rintro e w' ⟨rfl, rfl⟩)
 refine (zeros_any x.1 _ w hs.1 (fun l hl => by have := hs.2.2.2.1 l hl; omega)).mono ?_
 have hlr : s.secs[i].read.length = 256 := by
  unfold Sec.read
  cases hn : s.secs[i].now with
  | none => exact zs_len 256
  | some l => simpa using hs.2.2.2.1 l hn
 rintro e w' ⟨g, c', rfl, h1, h3⟩
 change Own w' w.heap.size (.slice (some ⟨g, 0, none⟩) s.secs[i].read.length c') s.secs[i].read at h1
 rw [show (s.secs[i].now.getD (zs 256)).length = 256 from hlr]
 rw [hlr] at h1
 have H2 := Lib.hid hlr
 clear hlr
 go_wp2
 go_ret
 exact ⟨_, _, rfl, h1, H2.out, h3⟩
def Dsk.done (s : Dsk) : Dsk :=
 if s.fused then { s with count := s.count + 1, left := s.left - 1, dead := decide (s.left - 1 < 1) } else { s with count := s.count + 1 }
theorem done_any (d L : Nat) (xs : List SecV) (s : Dsk) (w : World) (h : DiskAt w d L xs s) (hc : s.count < 1000000) (hl : s.fused = true → 1 ≤ s.left ∧ s.left ≤ 9223372036854775807) :
  Calls Tryz.prog 86 #[.pointer (some ⟨d, 0, none⟩)] w fun e w' => e = .returned (.tuple #[]) ∧ DiskAt w' d L xs s.done ∧ Turn [d] w w' := by
 have h1 := h.1.cell 1
 have h2 := h.1.cell 2
 have h3 := h.1.cell 3
 have h4 := h.1.cell 4
 have f1 := h.1.frozen 1
 have f2 := h.1.frozen 2
 have f3 := h.1.frozen 3
 have f4 := h.1.frozen 4
 simp at h1 h2 h3 h4
 cases hf : s.fused with
 | true =>
  rw [hf] at h1
  obtain ⟨hl1, hl2⟩ := hl hf
  have H := Lib.hid h
  have HF := Lib.hid hf
  clear h hf hl
  go_enter Tryz.func86, Tryz.ntmps86
  go_wp2
  go_end0
  have ht : Turn [d] w (((w.setCell ⟨d, 4, none⟩ (.int .i64 (s.count + 1))).setCell ⟨d, 2, none⟩ (.int .i64 (s.left - 1))).setCell ⟨d, 3, none⟩ (.bool (decide (s.left - 1 < 1)))) :=
   (((Turn.refl _ _).setCell (.inl (by simp)) _).setCell (.inl (by simp)) _).setCell (.inl (by simp)) _
  refine ⟨rfl, H.out.head ht ?_ ?_, ht⟩
  ·have := ((H.out.1.set_ 4 (.int .i64 (s.count + 1))).set_ 2 (.int .i64 (s.left - 1))).set_ 3 (.bool (decide (s.left - 1 < 1)))
   simpa [Dsk.done, HF.out] using this
  ·simp [Dsk.done, HF.out]
 | false =>
  rw [hf] at h1
  have H := Lib.hid h
  have HF := Lib.hid hf
  clear h hf hl
  go_enter Tryz.func86, Tryz.ntmps86
  go_wp2
  go_end0
  have ht : Turn [d] w (w.setCell ⟨d, 4, none⟩ (.int .i64 (s.count + 1))) := (Turn.refl _ _).setCell (.inl (by simp)) _
  refine ⟨rfl, H.out.head ht ?_ ?_, ht⟩
  ·have := H.out.1.set_ 4 (.int .i64 (s.count + 1))
   simpa [Dsk.done, HF.out] using this
  ·simp [Dsk.done, HF.out]
def Dsk.fuse (s : Dsk) (n : Int) : Dsk := if s.dead then s else { s with fused := true, left := n, dead := decide (n < 1) }
theorem fuse_any (d L : Nat) (xs : List SecV) (s : Dsk) (n : Int) (w : World) (h : DiskAt w d L xs s) :
  Calls Tryz.prog 29 #[.pointer (some ⟨d, 0, none⟩), .int .i64 n] w fun e w' => e = .returned (.tuple #[]) ∧ DiskAt w' d L xs (s.fuse n) ∧ Turn [d] w w' := by
 have h1 := h.1.cell 1
 have h2 := h.1.cell 2
 have h3 := h.1.cell 3
 have f1 := h.1.frozen 1
 have f2 := h.1.frozen 2
 have f3 := h.1.frozen 3
 simp at h1 h2 h3
 have H := Lib.hid h
 have hD := dead_any d L xs s w h
 clear h
 cases hf : s.dead with
 | true =>
  rw [hf] at h3 hD
  have HF := Lib.hid hf
  clear hf
  go_enter Tryz.func29, Tryz.ntmps29
  go_wp2_with (go_at_call 57; refine hD.mono ?_; rintro e w' ⟨rfl, rfl⟩)
  refine bodyPost_ret (results_none rfl _ _ _) rfl ?_
  exact ⟨rfl, by simpa [Dsk.fuse, HF.out] using H.out, Turn.refl _ _⟩
 | false =>
  rw [hf] at h3 hD
  have HF := Lib.hid hf
  clear hf
  go_enter Tryz.func29, Tryz.ntmps29
  go_wp2_with (go_at_call 57; refine hD.mono ?_; rintro e w' ⟨rfl, rfl⟩)
  go_end0
  have ht : Turn [d] w (((w.setCell ⟨d, 1, none⟩ (.bool true)).setCell ⟨d, 2, none⟩ (.int .i64 n)).setCell ⟨d, 3, none⟩ (.bool (decide (n < 1)))) :=
   (((Turn.refl _ _).setCell (.inl (by simp)) _).setCell (.inl (by simp)) _).setCell (.inl (by simp)) _
  refine ⟨rfl, H.out.head ht ?_ ?_, ht⟩
  ·have := ((H.out.1.set_ 1 (.bool true)).set_ 2 (.int .i64 n)).set_ 3 (.bool (decide (n < 1)))
   simpa [Dsk.fuse, HF.out] using this
  ·simp [Dsk.fuse, HF.out]
def fullTo (l : List UInt8) (n k : Nat) : List UInt8 := (List.range n).map fun i => if i < k then l.getD (i % l.length) 0 else 0
theorem fullTo_len (l : List UInt8) (n k : Nat) : (fullTo l n k).length = n := by simp [fullTo]
theorem fullTo_zero (l : List UInt8) (n : Nat) : fullTo l n 0 = zs n := by
 unfold fullTo zs
 apply List.ext_getElem? ; intro i
 simp [List.getElem?_replicate]
 by_cases h : i < n <;> simp [h]
theorem fullTo_succ (l : List UInt8) (n k : Nat) (h : k < n) : (fullTo l n k).set k (l.getD (k % l.length) 0) = fullTo l n (k + 1) := by
 unfold fullTo
 apply List.ext_getElem? ; intro i
 rw [List.getElem?_set]
 simp only [List.getElem?_map, List.length_map, List.length_range]
 by_cases hk : k = i
 ·subst hk
  simp [h]
 ·by_cases hn : i < n
  ·by_cases hl : i < k
   ·have : i < k + 1 := by omega
    simp [hk, hn, hl, this]
   ·have : ¬ i < k + 1 := by omega
    simp [hk, hn, hl, this]
  ·simp [hk, hn]
def full (l : List UInt8) (n : Int) : List UInt8 := if n < 0 ∨ 20000 < n then [] else if l = [] then zs n.toNat else fullTo l n.toNat n.toNat
theorem setB (xs : List UInt8) (k : Nat) (x : UInt8) : ((xs.map B).toArray).setIfInBounds k (B x) = ((xs.set k x).map B).toArray := by
 rw [List.setIfInBounds_toArray, List.map_set]
theorem Own.of_blk {w : World} {base g : Nat} {l : List UInt8} {n : Nat} (h : Blk w g 5 (l.map B).toArray) (hn : n = l.length) (hm : n ≤ maxLen) (hg : base ≤ g) : Own w base (.slice (some ⟨g, 0, none⟩) n n) l := by
 subst hn
 exact ⟨by simp, .inr ⟨g, l.length, _, rfl, hg, h, Nat.le_refl _, hm, by simp, by simp [List.take_of_length_le]⟩⟩
set_option maxHeartbeats 1000000 in
theorem full_core (A : Option Addr) (m c n : Nat) (l : List UInt8) (w : World) (h : Rd w A m c l) (hn : n ≤ 20000) :
  Calls Tryz.prog 55 #[.slice A m c, .int .i64 n] w fun e w' =>
   e = .returned (.slice (some ⟨w.heap.size, 0, none⟩) n n) ∧ Own w' w.heap.size (.slice (some ⟨w.heap.size, 0, none⟩) n n) (full l n) ∧ Below w.heap.size w w' := by
 have hM := Tryz.prog_make n (by omega)
 have hml := h.1
 by_cases hl : l = []
 ·subst hl
  obtain rfl : m = 0 := by simpa using hml
  have hf : full [] n = zs n := by unfold full; rw [if_neg (by omega), if_pos rfl]; simp
  have HF := Lib.hid hf
  clear hf hml
  go_enter Tryz.func55, Tryz.ntmps55
  go_wp2
  refine wp_loop_rounds 1 ?_
  rw [rounds_succ]
  go_wp2
  all_goals
   go_ret
   exact ⟨rfl, by rw [HF.out]; exact Own.made w n (by unfold maxLen; omega), (Below.refl _ _).alloc (Nat.le_refl _) _⟩
 ·have hlp : 0 < l.length := List.length_pos_iff.2 hl
  obtain ⟨b, off, rfl, hat⟩ := h.addr (by omega)
  subst hml
  have hf : full l n = fullTo l n n := by unfold full; rw [if_neg (by omega), if_neg hl]; simp
  have HF := Lib.hid hf
  have hlm : l.length ≤ 9223372036854775807 := by have := h.2.2.1; have := h.2.1; unfold maxLen at *; omega
  have hlz : ((l.length : Int) > 0) := by omega
  have hnew := Blk.new w 5 (madeCells #[.int .u8 0] n)
  rw [madeCells_one, ← List.toArray_replicate] at hnew
  have hzs : (List.replicate n (Value.int .u8 0)) = (fullTo l n 0).map B := by rw [fullTo_zero]; unfold zs; simp [B]
  rw [hzs] at hnew
  have Hnew := Lib.hid hnew
  have Hat := Lib.hid hat
  have hbl := hat.1
  clear hf h hl hnew hzs hat
  go_enter Tryz.func55, Tryz.ntmps55
  go_wp2
  go_loopw [6] (fun i wr => ∃ k : Nat, k ≤ n ∧ i = .int .i64 k ∧ Blk wr w.heap.size 5 ((fullTo l n k).map B).toArray ∧ Below w.heap.size w wr) (fun i _ => n - (intOf i).toNat)
  case atStart => exact ⟨0, by omega, rfl, by rw [madeCells_one, ← List.toArray_replicate]; simpa [fullTo_zero, zs, B] using Blk.new w _ _, (Below.refl _ _).alloc (Nat.le_refl _) _⟩
  case round =>
   obtain ⟨k, hk, rfl, hB, hb⟩ := hrel
   by_cases hlt : k < n
   ·have hki : (k : Int) < n := by omega
    have hmod : k % l.length < l.length := Nat.mod_lt _ hlp
    have hmi : ((k : Int) % (l.length : Int)) < (l.length : Int) := by omega
    have hm0 : 0 ≤ ((k : Int) % (l.length : Int)) := by omega
    have hc := (Hat.out.keep hb.size (hb.block b hbl)).cell hmod
    have hx0 := hB.cell k
    have hxf := hB.frozen k
    simp [fullTo_len, hlt] at hx0
    unfold B at hc hx0
    have HB := Lib.hid hB
    clear hB
    go_wp2
    go_roundw
    case rel =>
     refine ⟨k + 1, by omega, by go_num, ?_, hb.setCell (Nat.le_refl _) _⟩
     have := HB.out.set_ k (B l[k % l.length])
     rw [setB] at this
     have hg : l.getD (k % l.length) 0 = l[k % l.length] := by simp [List.getD, hmod]
     rw [← hg, fullTo_succ l n k hlt, hg] at this
     exact this
    case measure => simp [intOf]; omega
   ·obtain rfl : k = n := by omega
    have hq : ¬ ((k : Int) < k) := by omega
    go_wp2
    go_ret
    exact ⟨rfl, by rw [HF.out]; exact Own.of_blk hB (fullTo_len _ _ _).symm (by unfold maxLen; omega) (Nat.le_refl _), hb⟩
theorem full_any (A : Option Addr) (m c : Nat) (n : Int) (l : List UInt8) (w : World) (h : Rd w A m c l) :
  Calls Tryz.prog 55 #[.slice A m c, .int .i64 n] w fun e w' =>
   ∃ g, e = .returned (.slice (some ⟨g, 0, none⟩) (full l n).length (full l n).length) ∧ Own w' w.heap.size (.slice (some ⟨g, 0, none⟩) (full l n).length (full l n).length) (full l n) ∧ Below w.heap.size w w' := by
 by_cases hn : 0 ≤ n ∧ n ≤ 20000
 ·obtain ⟨k, rfl⟩ : ∃ k : Nat, n = k := ⟨n.toNat, by omega⟩
  have hl : (full l k).length = k := by
   unfold full
   rw [if_neg (by omega)]
   split
   ·simp [zs_len]
   ·simp [fullTo_len]
  rw [hl]
  exact (full_core A m c k l w h (by omega)).mono fun _ _ ⟨h1, h2, h3⟩ => ⟨_, h1, h2, h3⟩
 ·have hl : full l n = [] := by unfold full; rw [if_pos (by omega)]
  rw [hl]
  have hM := Tryz.prog_make 0 (by omega)
  rw [show ((0 : Nat) : Int) = 0 from rfl] at hM
  have fin : Own (w.alloc (.cells (madeCells #[.int .u8 0] 0) 5)) w.heap.size (.slice (some ⟨w.heap.size, 0, none⟩) 0 0) [] := Own.made w 0 (by unfold maxLen; omega)
  have fin2 : Below w.heap.size w (w.alloc (.cells (madeCells #[.int .u8 0] 0) 5)) := (Below.refl _ _).alloc (Nat.le_refl _) _
  obtain ⟨h1, h2, h3, h4⟩ := h
  unfold maxLen at h3
  clear hl h4
  rcases Int.lt_or_le n 0 with h0 | h0
  ·clear hn
   go_enter Tryz.func55, Tryz.ntmps55
   go_wp2
   refine wp_loop_rounds 1 ?_
   rw [rounds_succ]
   go_wp2
   go_ret
   exact ⟨_, rfl, fin, fin2⟩
  ·have h5 : 20000 < n := by omega
   clear hn
   go_enter Tryz.func55, Tryz.ntmps55
   go_wp2
   refine wp_loop_rounds 1 ?_
   rw [rounds_succ]
   go_wp2
   go_ret
   exact ⟨_, rfl, fin, fin2⟩
end Go.Proofs.YtgjnmpjimhbfgaaGreatDoor
