/-
  A store's records as they lie: a map of rows of bytes by numbers; its numbers, rising; its load.
-/
import Derived.Test.YtgjnmpjimhbfgaaGreatDoorMapH
import Derived.Test.YtgjnmpjimhbfgaaGreatDoorZzStQ
import Derived.Test.YtgjnmpjimhbfgaaGreatDoorSrt
import Derived.Test.YtgjnmpjimhbfgaaGreatDoorZzRowK
import Derived.Shelf.Slices.In.SortNone
import Derived.Sort.OwnSortedInts
namespace Go.Proofs.YtgjnmpjimhbfgaaGreatDoor
set_option maxRecDepth 100000
open Go.RowKit Go.Maps
theorem Old.tnew {w w1 w2 : World} {S : List Nat} (h : Old w w1) (ht : Turn S w1 w2) (hS : ∀ x ∈ S, w.heap.size ≤ x) : Old w w2 :=
 ⟨ht.os.trans h.os, ht.tape.trans h.tape, ht.output.trans h.output, Nat.le_trans h.size ht.size, fun k hk => (ht.block k (Nat.lt_of_lt_of_le hk h.size) (fun hm => by have := hS k hm; omega)).trans (h.block k hk)⟩
def Tryz.mR : Tryz.MTy := { tm := 79, te := 32, z := .slice none 0 0, und := Tryz.underlying79, zero := fun w => by kernel_rfl }
def Tryz.eIr : ETy Int where
 t := 3
 ts := 96
 sz := 1
 bytes := 8
 z := .int .i64 0
 cells := fun x => [.int .i64 x]
 len := fun _ => rfl
 one := fun x u hu => by simp at hu; subst hu; rfl
 pos := by decide
 zsz := rfl
 small := by decide
 und := Tryz.underlying96
 info := by kernel_rfl
structure Recs (W : World) (M : List SRec) (f : Int → Option Value) : Prop where
 no : ∀ x, wfI x → sget M x = none → f x = none
 yes : ∀ x l, wfI x → sget M x = some l → ∃ A m c, f x = some (.slice A m c) ∧ Own W 0 (.slice A m c) l
structure RMap (W : World) (b : Nat) (M : List SRec) : Prop where
 rise : Rising M
 ids : ∀ p ∈ M, wfI p.1
 map : ∃ f, HMap W b M.length f ∧ Recs W M f
variable {W W' : World} {b : Nat} {M : List SRec} {f : Int → Option Value}
theorem Recs.turn (h : Recs W M f) {S : List Nat} (ht : Turn S W W') (hS : ∀ g ∈ S, NoRow W g ∨ W.heap.size ≤ g) : Recs W' M f :=
 ⟨h.no, fun x l hx hl => by
  obtain ⟨A, m, c, h1, h2⟩ := h.yes x l hx hl
  exact ⟨A, m, c, h1, h2.turn ht (fun g hg hm => by
   rcases hS g hm with h3 | h3
   ·exact h2.notin h3 hg
   ·have := (h2.lt hg).2; omega)⟩⟩
theorem Recs.below (h : Recs W M f) (hb : Old W W') : Recs W' M f := h.turn (Turn.of_below [] hb) (by simp)
theorem RMap.turn (h : RMap W b M) {S : List Nat} (ht : Turn S W W') (hb : b ∉ S) (hS : ∀ g ∈ S, NoRow W g ∨ W.heap.size ≤ g) : RMap W' b M := by
 obtain ⟨f, h1, h2⟩ := h.map
 exact ⟨h.rise, h.ids, f, h1.turn ht hb, h2.turn ht hS⟩
theorem RMap.below (h : RMap W b M) (hb : Old W W') : RMap W' b M := h.turn (Turn.of_below [] hb) (by simp) (by simp)
theorem RMap.lt (h : RMap W b M) : b < W.heap.size := by obtain ⟨f, h1, _⟩ := h.map; exact h1.lt
theorem RMap.noRow (h : RMap W b M) : NoRow W b := by obtain ⟨f, h1, _⟩ := h.map; exact h1.noRow
theorem RMap.made (w : World) : RMap (w.alloc (.map #[] 0)) w.heap.size [] := ⟨Rising.nil, fun p hp => (by cases hp), _, HMap.made w, ⟨fun _ _ _ => rfl, fun x l _ h => by cases h⟩⟩
theorem Recs.some (h : Recs W M f) {x : Int} {u : Value} (hx : wfI x) (hu : f x = some u) : ∃ l, sget M x = some l ∧ ∃ A m c, u = .slice A m c ∧ Own W 0 (.slice A m c) l := by
 cases hs : sget M x with
 | none => rw [h.no x hx hs] at hu; cases hu
 | some l =>
  obtain ⟨A, m, c, h1, h2⟩ := h.yes x l hx hs
  rw [hu] at h1
  injection h1 with h1
  exact ⟨l, rfl, A, m, c, h1, h2⟩
theorem sget_iff (x : Int) : (sget M x).isSome = true ↔ x ∈ M.map (·.1) := by
 induction M with
 | nil => simp [sget_nil]
 | cons p M ih =>
  rw [sget_cons]
  by_cases e : p.1 = x
  ·rw [if_pos e]; simp [e]
  ·rw [if_neg e, ih]
   simp only [List.map_cons, List.mem_cons]
   exact ⟨.inr, fun h => h.elim (fun h => absurd h.symm e) id⟩
theorem Recs.is (h : Recs W M f) {x : Int} (hx : wfI x) : (f x).isSome = true ↔ x ∈ M.map (·.1) := by
 rw [← sget_iff]
 cases hs : sget M x with
 | none => rw [h.no x hx hs]; simp
 | some l =>
  obtain ⟨A, m, c, h1, h2⟩ := h.yes x l hx hs
  rw [h1]; simp
theorem Rising.nodup (h : Rising M) : (M.map (·.1)).Nodup := by
 unfold List.Nodup
 rw [List.pairwise_map]
 exact h.imp (fun hab e => by omega)
theorem vis_len {ks : List Int} {left : Lit → Bool} (hv : Vis f ks left) (hr : Recs W M f) : ks.length ≤ M.length := by
 have := hv.nodup.length_le_of_subset (l₂ := M.map (·.1)) (fun x hx => by
  obtain ⟨h1, h2⟩ := hv.mem x hx
  exact (hr.is h1).1 h2)
 simpa using this
theorem vis_perm {ks : List Int} {left : Lit → Bool} (hv : Vis f ks left) (hr : Recs W M f) (hM : Rising M) (hid : ∀ p ∈ M, wfI p.1) (hall : ∀ x, wfI x → (x ∈ ks ↔ (f x).isSome = true)) : ks.Perm (M.map (·.1)) := by
 rw [List.perm_ext_iff_of_nodup hv.nodup hM.nodup]
 intro x
 constructor
 ·intro hx
  obtain ⟨h1, h2⟩ := hv.mem x hx
  exact (hr.is h1).1 h2
 ·intro hx
  obtain ⟨p, hp, e⟩ := List.mem_map.1 hx
  have hw := hid p hp
  rw [e] at hw
  exact (hall x hw).2 ((hr.is hw).2 hx)
theorem perm_sorted {ks : List Int} (hM : Rising M) (hp : ks.Perm (M.map (·.1))) : ks.mergeSort (fun x y => decide (x ≤ y)) = M.map (·.1) := by
 refine List.Perm.eq_of_pairwise (le := fun a b => a ≤ b) (fun a b _ _ h1 h2 => by omega) ?_ ?_ ((List.mergeSort_perm _ _).trans hp)
 ·have := List.pairwise_mergeSort (le := fun x y : Int => decide (x ≤ y)) (fun a b c h1 h2 => by simp at *; omega) (fun a b => by simp; omega) ks
  exact this.imp (fun h => by simpa using h)
 ·rw [List.pairwise_map]
  exact hM.imp (fun h => by omega)
def sumK (M : List SRec) (ks : List Int) : Nat := (ks.map fun x => ((sget M x).getD []).length + 8).sum
theorem sumK_snoc (M : List SRec) (ks : List Int) (x : Int) : sumK M (ks ++ [x]) = sumK M ks + (((sget M x).getD []).length + 8) := by simp [sumK]
theorem sumK_all (hM : Rising M) : sumK M (M.map (·.1)) = sload M := by
 unfold sumK sload
 rw [List.map_map]
 congr 1
 refine List.map_congr_left fun p hp => ?_
 show ((sget M p.1).getD []).length + 8 = _
 rw [sget_mem hM hp]; rfl
theorem sumK_perm {ks ls : List Int} (h : ks.Perm ls) : sumK M ks = sumK M ls := List.Perm.sum_nat (h.map _)
theorem sumK_cons (M : List SRec) (x : Int) (ks : List Int) : sumK M (x :: ks) = ((sget M x).getD []).length + 8 + sumK M ks := by simp [sumK]
theorem sumK_erase (M : List SRec) (x : Int) (ls : List Int) (h : x ∈ ls) : sumK M ls = ((sget M x).getD []).length + 8 + sumK M (ls.erase x) := by
 rw [← sumK_cons]
 exact sumK_perm (List.perm_cons_erase h)
theorem sumK_sub {ks ls : List Int} (h1 : ks.Nodup) (h2 : ∀ x ∈ ks, x ∈ ls) : sumK M ks ≤ sumK M ls := by
 induction ks generalizing ls with
 | nil => simp [sumK]
 | cons x ks ih =>
  obtain ⟨a1, a2⟩ := List.nodup_cons.1 h1
  rw [sumK_cons, sumK_erase M x ls (h2 x (by simp))]
  have := ih (ls := ls.erase x) a2 (fun y hy => (List.mem_erase_of_ne (fun e => a1 (by rw [← e]; exact hy))).2 (h2 y (by simp [hy])))
  omega
theorem vis_sum {ks : List Int} {left : Lit → Bool} (hv : Vis f ks left) (hr : Recs W M f) (hM : Rising M) : sumK M ks ≤ sload M := by
 rw [← sumK_all hM]
 exact sumK_sub hv.nodup (fun x hx => by
  obtain ⟨h1, h2⟩ := hv.mem x hx
  exact (hr.is h1).1 h2)
theorem rclone_own (A : Option Addr) (m c : Nat) (l : List UInt8) (w : World) (h : Rd w A m c l) (hm : m ≤ 100000000000) :
  Calls Tryz.prog 43 #[.slice A m c] w fun e w' => ∃ A' c', e = .returned (.slice A' l.length c') ∧ Own w' w.heap.size (.slice A' l.length c') l ∧ Old w w' := by
 obtain ⟨h1, h2, h3, ⟨rfl, hc⟩ | ⟨b, off, rfl, h4⟩⟩ := h
 ·obtain rfl : m = 0 := by omega
  obtain rfl : l = [] := List.length_eq_zero_iff.1 h1.symm
  subst hc
  refine (clone_nil w).mono ?_
  rintro e w' ⟨rfl, rfl⟩
  exact ⟨_, _, rfl, Own.nil _ _, Below.refl _ _⟩
 ·refine (clone_any b off m c l w h4 h1 (by omega)).mono ?_
  rintro e w' ⟨g, c', rfl, ho, hb⟩
  subst h1
  exact ⟨_, _, rfl, ho, hb⟩
theorem eIr_all : ∀ l : List Int, Tryz.eIr.all l = l.map (Value.int .i64)
 | [] => rfl
 | x :: l => by
  have := eIr_all l
  unfold ETy.all at this ⊢
  rw [List.flatMap_cons, this]
  rfl
theorem sort_any (w : World) (base : Nat) (A : Option Addr) (n c : Nat) (ks : List Int) (h : OwnE Tryz.eIr w base (.slice A n c) ks) (hn : ks.length ≤ 1000000) :
  Calls Tryz.prog 84 #[.slice A n c] w fun e w' => e = .returned (.tuple #[]) ∧ OwnE Tryz.eIr w' base (.slice A n c) (ks.mergeSort fun x y => decide (x ≤ y)) ∧ Turn (Value.slice A n c).ownBlock.toList w w' := by
 have hl := h.len
 have hO := h
 obtain ⟨h1, ⟨e, h0⟩ | ⟨g, cap, cur, e, hg, hb, h2, h3, h4, h5⟩⟩ := h
 ·injection e with e1 e2 e3
  subst e1 e2 e3
  obtain rfl : ks = [] := List.eq_nil_of_length_eq_zero hl.symm
  refine (Any.slices_Sort_int_none sortLays none 0 w).mono ?_
  rintro e w' ⟨rfl, rfl⟩
  exact ⟨rfl, by rw [List.mergeSort_nil]; exact hO, Turn.refl _ _⟩
 ·injection e with e1 e2 e3
  subst e1 e2 e3
  rw [eIr_all] at h5
  have h5' : cur.toList.take ks.length = ks.map (Value.int .i64) := by have hsz : Tryz.eIr.sz = 1 := rfl; rw [hsz, Nat.mul_one] at h5; exact h5
  have hlt : g < w.heap.size := (Array.getElem?_eq_some_iff.1 hb).1
  refine (sort_int g 0 c ks w (holds_of_blockI hb h5') hlt (by omega)).mono ?_
  rintro e w' ⟨rfl, n, os, rfl⟩
  refine ⟨rfl, ?_, ?_⟩
  ·have hs : (ks.mergeSort fun x y => decide (x ≤ y)).length = ks.length := List.length_mergeSort _
   have := ownsRow_sortedI (n := n) (os := os) hs hg hb h2 h3 h4
   unfold OwnE
   rw [eIr_all, hs]
   exact this
  ·exact Turn.of_grown (v := .slice (some ⟨g, 0, none⟩) ks.length c) (grownBy_sortedI _)
end Go.Proofs.YtgjnmpjimhbfgaaGreatDoor
namespace Go.Proofs.YtgjnmpjimhbfgaaGreatDoor
set_option maxRecDepth 100000
open Go.RowKit Go.Maps
structure IdI (w wl : World) (b r N : Nat) (f : Int → Option Value) (ks : List Int) (left : Lit → Bool) (cnt : Nat) (A : Option Addr) (n c : Nat) : Prop where
 rng : HRange wl b r N f left cnt
 vis : Vis f ks left
 own : OwnE Tryz.eIr wl w.heap.size (.slice A n c) ks
 old : Old w wl
 new : ∀ g, (Value.slice A n c).ownBlock = some g → g ≠ r
theorem ids_rng {w wl w1 w7 : World} {b r N : Nat} {f : Int → Option Value} {ks : List Int} {left left1 : Lit → Bool} {cnt cnt1 : Nat} {A A7 : Option Addr} {n c n7 c7 : Nat} {o : Obj} {l7 : List Int}
  (hI : IdI w wl b r N f ks left cnt A n c) (h1 : HRange w1 b r N f left1 cnt1) (h7 : GrewE Tryz.eIr w.heap.size (w1.alloc o) w7 (.slice A n c) A7 n7 c7 l7) (hb : b < w.heap.size) : HRange w7 b r N f left1 cnt1 ∧ ∀ g, (Value.slice A7 n7 c7).ownBlock = some g → g ≠ r := by
 constructor
 ·refine (h1.below ((Old.refl w1).alloc o)).turn (Turn.of_grown h7.grown) (fun hm => ?_) (fun hm => ?_)
  ·have := (hI.own.lt (by simpa using hm)).1; omega
  ·exact hI.new r (by simpa using hm) rfl
 ·intro g hg e
  subst e
  rcases h7.at_ with h | h
  ·exact hI.new g (h.symm.trans hg) rfl
  ·rw [hg] at h
   injection h with h
   have := h1.lt
   simp at h
   omega
theorem ids_nil (w : World) : Calls Tryz.prog 54 #[.map none] w fun e w' => e = .returned (.slice none 0 0) ∧ Old w w' := by
 have hs : ∀ w, Calls Tryz.prog 84 #[.slice none 0 0] w fun e w' => e = .returned (.tuple #[]) ∧ w' = w := fun w => Any.slices_Sort_int_none sortLays none 0 w
 have hrg := fun W : World => run_range_nilMap (P := Tryz.prog) W 79 3 32 Tryz.underlying79
 go_enter Tryz.func54, Tryz.ntmps54
 go_wp2_with fail
 refine wp_loop_rounds 1 ?_
 rw [rounds_succ]
 have hnx := fun ty => run_next_nilMap (P := Tryz.prog) w ty 0 0 #[]
 go_wp2_with (first | (go_at_call 84; refine (hs _).mono ?_; rintro e w2 ⟨rfl, rfl⟩))
 go_ret
 exact ⟨rfl, (Old.refl w).alloc _⟩
set_option maxHeartbeats 2000000 in
theorem ids_any (b : Nat) (M : List SRec) (w : World) (h : RMap w b M) (hl : M.length ≤ 100000) :
  Calls Tryz.prog 54 #[.map (some b)] w fun e w' => ∃ A c, e = .returned (.slice A M.length c) ∧ OwnE Tryz.eIr w' w.heap.size (.slice A M.length c) (M.map (·.1)) ∧ Old w w' := by
 obtain ⟨f, hM, hR⟩ := h.map
 have hlt := h.lt
 obtain ⟨N, hN⟩ : ∃ N, M.length = N := ⟨_, rfl⟩
 rw [hN] at hM hl
 have HV := Lib.hid (And.intro h.rise (And.intro h.ids (And.intro hR (And.intro hN (And.intro hl hlt)))))
 clear h hl hlt hR
 go_enter Tryz.func54, Tryz.ntmps54
 go_wp2_with (first
  | (at_range; go_must (refine wp_hrange Tryz.mR _ hM rfl rfl rfl ?_); intro w0 left cnt hrg hv hbw hs0; have HR0 := Lib.hid (And.intro hrg (And.intro hv (And.intro hbw hs0))); clear hrg hv hbw hs0)
  | go_in)
 try go_frame
 clear hM
 obtain ⟨r, hr⟩ : ∃ r, w.heap.size = r := ⟨_, rfl⟩
 rw [hr] at HR0
 rw [hr]
 have Hr := Lib.hid hr
 clear hr
 go_loopw [3] (fun lv wl => ∃ ks left cnt A n c, lv = .slice A n c ∧ IdI w wl b r N f ks left cnt A n c) (fun _ wl => wl.rangeLeft b r)
 case atStart => exact ⟨[], _, _, none, 0, 0, rfl, HR0.out.1, HR0.out.2.1, OwnE.nil _ _, (by have := HR0.out.2.2.1; rw [← Hr.out] at this; exact this), fun g hg => by cases hg⟩
 case round =>
  obtain ⟨ks, left, cnt, A, n, c, rfl, hI⟩ := hrel
  have HI := Lib.hid hI
  clear hI
  go_wp2_with (first
   | (at_next; go_must (refine wp_hnext _ ks left HI.out.rng HI.out.vis rfl rfl rfl ?_ ?_))
   | go_in)
  ·intro hall
   have HA := Lib.hid hall
   clear hall
   have hsrt := fun W (hO : OwnE Tryz.eIr W w.heap.size (.slice A n c) ks) => sort_any W w.heap.size A n c ks hO (by have := vis_len HI.out.vis HV.out.2.2.1; have := HV.out.2.2.2; omega)
   go_wp2_with (go_at_call 84; refine (hsrt _ HI.out.own).mono ?_; rintro e w2 ⟨rfl, hO2, hT2⟩; have H2 := Lib.hid (And.intro hO2 hT2); clear hO2 hT2)
   go_ret
   have hp := vis_perm HI.out.vis HV.out.2.2.1 HV.out.1 HV.out.2.1 HA.out
   have h2 := H2.out.1
   rw [perm_sorted HV.out.1 hp] at h2
   have hn := h2.len
   rw [List.length_map] at hn
   subst hn
   refine ⟨A, c, rfl, h2, ?_⟩
   exact HI.out.old.tnew H2.out.2 (fun x hx => (HI.out.own.lt (by simpa using hx)).1)
  ·intro x u w1 left1 cnt1 hx hu hk hv1 hrg1 hlt1 hT1 hs1 hen
   have H1 := Lib.hid (And.intro hrg1 (And.intro hv1 (And.intro hlt1 (And.intro hT1 (And.intro hs1 hu)))))
   have hO1 := HI.out.own.turn hT1 (fun g hg hm => HI.out.new g hg (by simpa using hm))
   have hOld1 : Old w w1 := HI.out.old.tnew hT1 (fun x hx => by simp at hx; rw [hx, Hr.out]; exact Nat.le_refl _)
   have HO := Lib.hid (And.intro hO1 hOld1)
   clear hrg1 hv1 hlt1 hT1 hs1 hu hO1 hOld1
   go_wp2_with (at_builtin; go_must (refine wp_appE Tryz.eIr (.tmp 11) (.tmp 13) w.heap.size (.slice A n c) ks (HO.out.1.below ((Old.refl w1).alloc _)) (by simp; have := HO.out.2.size; omega) (some ⟨w1.heap.size, 0, none⟩) 1 1 [x] (Blk.rdC Tryz.eIr (Blk.new w1 3 #[.int .i64 x]) rfl) (fun h => by cases h) (by have := vis_len HI.out.vis HV.out.2.2.1; have := HV.out.2.2.2; simp; omega) rfl rfl rfl rfl ?_); intro A7 n7 c7 w7 hG; have H7 := Lib.hid hG; clear hG)
   go_roundw
   case measure => rw [(ids_rng HI.out H1.out.1 H7.out (by have := HV.out.2.2.2.2.2; omega)).1.left_eq, HI.out.rng.left_eq]; exact H1.out.2.2.1
   obtain ⟨q1, q2⟩ := ids_rng HI.out H1.out.1 H7.out (by have := HV.out.2.2.2.2.2; omega)
   exact ⟨ks ++ [x], _, _, A7, n7, c7, rfl, q1, H1.out.2.1, H7.out.own, Below.trans (HO.out.2.alloc _) H7.out.below, q2⟩
end Go.Proofs.YtgjnmpjimhbfgaaGreatDoor
namespace Go.Proofs.YtgjnmpjimhbfgaaGreatDoor
set_option maxRecDepth 100000
open Go.RowKit Go.Maps
structure LdI (w wl : World) (b r N : Nat) (f : Int → Option Value) (ks : List Int) (left : Lit → Bool) (cnt : Nat) : Prop where
 rng : HRange wl b r N f left cnt
 vis : Vis f ks left
 old : Old w wl
set_option maxHeartbeats 2000000 in
theorem stload_any (b : Nat) (M : List SRec) (w : World) (h : RMap w b M) (hl : sload M ≤ 1000000000) :
  Calls Tryz.prog 42 #[.map (some b)] w fun e w' => e = .returned (.int .i64 (sload M : Int)) ∧ Old w w' := by
 obtain ⟨f, hM, hR⟩ := h.map
 have hlt := h.lt
 obtain ⟨N, hN⟩ : ∃ N, M.length = N := ⟨_, rfl⟩
 rw [hN] at hM
 have HV := Lib.hid (And.intro h.rise (And.intro h.ids (And.intro hR (And.intro hN (And.intro hl hlt)))))
 clear h hl hlt hR
 go_enter Tryz.func42, Tryz.ntmps42
 go_wp2_with (first
  | (at_range; go_must (refine wp_hrange Tryz.mR _ hM rfl rfl rfl ?_); intro w0 left cnt hrg hv hbw hs0; have HR0 := Lib.hid (And.intro hrg (And.intro hv (And.intro hbw hs0))); clear hrg hv hbw hs0)
  | go_in)
 try go_frame
 clear hM
 obtain ⟨r, hr⟩ : ∃ r, w.heap.size = r := ⟨_, rfl⟩
 rw [hr] at HR0
 rw [hr]
 have Hr := Lib.hid hr
 clear hr
 go_loopw [3] (fun lv wl => ∃ ks left cnt, lv = .int .i64 (sumK M ks : Int) ∧ LdI w wl b r N f ks left cnt) (fun _ wl => wl.rangeLeft b r)
 case atStart => exact ⟨[], _, _, rfl, HR0.out.1, HR0.out.2.1, (by have := HR0.out.2.2.1; rw [← Hr.out] at this; exact this)⟩
 case round =>
  obtain ⟨ks, left, cnt, rfl, hI⟩ := hrel
  have HI := Lib.hid hI
  clear hI
  go_wp2_with (first
   | (at_next; go_must (refine wp_hnext _ ks left HI.out.rng HI.out.vis rfl rfl rfl ?_ ?_))
   | go_in)
  ·intro hall
   have HA := Lib.hid hall
   clear hall
   go_wp2
   go_ret
   have hp := vis_perm HI.out.vis HV.out.2.2.1 HV.out.1 HV.out.2.1 HA.out
   rw [sumK_perm hp, sumK_all HV.out.1]
   exact ⟨rfl, HI.out.old⟩
  ·intro x u w1 left1 cnt1 hx hu hk hv1 hrg1 hlt1 hT1 hs1 hen
   obtain ⟨l, hsg, A, m, c, rfl, hOw⟩ := HV.out.2.2.1.some hx hu
   obtain rfl := hOw.len
   have hle := vis_sum hv1 HV.out.2.2.1 HV.out.1
   have hsn := sumK_snoc M ks x
   rw [hsg] at hsn
   simp only [Option.getD_some] at hsn
   have t0 := HV.out.2.2.2.2.1
   have t1 : ((l.length : Int) + 8) = ((l.length + 8 : Nat) : Int) := by omega
   obtain ⟨S, hS⟩ : ∃ S, sumK M ks = S := ⟨_, rfl⟩
   obtain ⟨ln, hln⟩ : ∃ ln, l.length = ln := ⟨_, rfl⟩
   rw [hS, hln] at hsn
   rw [hS]
   rw [hln] at hen
   rw [hln]
   have t2 : S + (ln + 8) ≤ 1000000000 := by omega
   have H1 := Lib.hid (And.intro hrg1 (And.intro hv1 (And.intro hlt1 (And.intro hT1 (And.intro hs1 hsn)))))
   have hOld1 : Old w w1 := HI.out.old.tnew hT1 (fun x hx => by simp at hx; rw [hx, Hr.out]; exact Nat.le_refl _)
   have HO := Lib.hid hOld1
   clear hrg1 hv1 hlt1 hT1 hs1 hu hOld1 hOw hle hsn t0 t1 hsg hS hln
   go_wp2
   go_roundw
   case measure => rw [H1.out.1.left_eq, HI.out.rng.left_eq]; exact H1.out.2.2.1
   exact ⟨ks ++ [x], _, _, by rw [H1.out.2.2.2.2.2]; simp, H1.out.1, H1.out.2.1, HO.out⟩
end Go.Proofs.YtgjnmpjimhbfgaaGreatDoor
