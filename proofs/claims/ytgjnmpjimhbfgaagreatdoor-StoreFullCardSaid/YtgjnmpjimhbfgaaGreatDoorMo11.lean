/-
  Modes: GCM's parameter taken in.
-/
import Derived.Test.YtgjnmpjimhbfgaaGreatDoorZzMo10
namespace Go.Proofs.YtgjnmpjimhbfgaaGreatDoor
set_option maxRecDepth 100000
open Go.RowKit
structure GX where
 d : Nat
 c : Nat
 K : Nat
 R : Nat
 cp : Nat
 ks : List UInt8
 mode : Nat
 enc : Bool
 gc : Nat
 oc : Nat
 cc : Nat
 wd : Nat
def stG (x : GX) (W P M D O : Value) (over : Bool) : Array Value := #[.int .i64 (x.mode : Int), .bool x.enc, .pointer (some ⟨x.c, 0, none⟩), .slice none 0 0, W, .slice (some ⟨x.gc, x.oc, none⟩) 16 x.cc, .int .i64 (x.wd : Int), P, M, D, O, .bool over]
def GX.E (x : GX) : List UInt8 → List UInt8 := encL x.ks x.R
def GX.cx (x : GX) (W M D O : Value) : CX := ⟨x.d, x.gc, x.oc, x.cc, x.c, x.K, x.R, x.cp, x.wd, x.ks, stG x W (.slice none 0 0) M D O false⟩
structure Vw where
 A : Option Addr
 n : Nat
 c : Nat
 l : List UInt8
def Vw.v (s : Vw) : Value := .slice s.A s.n s.c
def Vw.rd (w : World) (s : Vw) : Prop := Rd w s.A s.n s.c s.l
def nilW : Vw := ⟨none, 0, 0, []⟩
def Apart (A C : Option Addr) : Prop := ∀ a b, A = some a → C = some b → a.block ≠ b.block
theorem Apart.none_l (C : Option Addr) : Apart none C := fun a b h => by cases h
theorem Apart.none_r (A : Option Addr) : Apart A none := fun a b _ h => by cases h
structure GcAt (w : World) (x : GX) (W : Vw) (ctr : List UInt8) (P M D O : Vw) : Prop where
 cnt : CntAt w (x.cx W.v M.v D.v O.v) ctr P.A P.n P.c P.l
 wait : OwnO w 0 W.v W.l
 mask : M.rd w
 m16 : x.mode = 5 → M.n = 16
 data : D.rd w
 out : Own w 0 O.v O.l
 sg : ∀ ad, (W.A = some ad ∨ M.A = some ad ∨ D.A = some ad ∨ O.A = some ad) → ad.block ≠ x.gc
 sw : ∀ ad, (W.A = some ad ∨ O.A = some ad) → ad.block ≠ x.d ∧ ad.block ≠ x.c ∧ ad.block ≠ x.K
 aw : Apart W.A P.A ∧ Apart W.A M.A ∧ Apart W.A D.A ∧ Apart W.A O.A
 ao : Apart O.A P.A ∧ Apart O.A M.A ∧ Apart O.A D.A
def gcmJ (E : List UInt8 → List UInt8) (p : List UInt8) : List UInt8 :=
 if (p.getD 0 0).toNat = 12 then (p.drop 1).take 12 ++ [0, 0, 0, 1]
 else gh (E (zs 16)) ((p.drop 1).take (p.getD 0 0).toNat ++ zs (padM (p.getD 0 0).toNat) ++ lenL 0 (p.getD 0 0).toNat)
def gcmOk (p : List UInt8) : Prop := 2 ≤ p.length ∧ 1 ≤ (p.getD 0 0).toNat ∧ 1 + (p.getD 0 0).toNat ≤ p.length
instance (p : List UInt8) : Decidable (gcmOk p) := by unfold gcmOk; infer_instance
def st0 (mode : Nat) (enc : Bool) (c : Nat) : Array Value := stB mode enc c (.slice none 0 0) (.slice none 0 0) false
structure GM (w : World) (d c : Nat) (enc : Bool) (DV : Value) (j : List UInt8) (wx : World) (gc cc : Nat) : Prop where
 blk : Blk wx d 139 #[.int .i64 5, .bool enc, .pointer (some ⟨c, 0, none⟩), .slice none 0 0, .slice none 0 0, .slice (some ⟨gc, 0, none⟩) 16 cc, .int .i64 0, .slice none 0 0, .slice none 0 0, DV, .slice none 0 0, .bool false]
 ctr : CtrAt wx gc 0 j
 new : w.heap.size ≤ gc
 c16 : 16 ≤ cc
 ccm : cc ≤ maxLen
 turn : Turn [d] w wx
theorem isN0 (z : UInt8) : isN z 0 = decide (z.toNat = 0) := by
 unfold isN
 by_cases h : z.toNat = 0
 ·rw [h]; rfl
 ·rw [decide_eq_false h]; simp only [beq_eq_false_iff_ne, ne_eq]; omega
theorem conv_Bi (z : UInt8) (W : World) : (convert 5 3 (B z)).run Tryz.prog W = .ok (.int .i64 (z.toNat : Int)) W := by
 unfold B
 rw [conv_int W .i64 Tryz.underlying5 Tryz.underlying3, IntWalk.i64_in _ (by have := z.toNat_lt; omega)]
theorem gcm_no (d : Nat) (cs : Array Value) (A : Option Addr) (m cm : Nat) (p : List UInt8) (w : World) (_h : Blk w d 139 cs) (hp : Rd w A m cm p) (hm : m ≤ 2000000) (hn : ¬ gcmOk p) :
  Calls Tryz.prog 108 #[.pointer (some ⟨d, 0, none⟩), .slice A m cm] w fun e w' => e = .returned (.bool false) ∧ w = w' := by
 have hml := hp.1
 by_cases h2 : m < 2
 ·have h2i : (m : Int) < 2 := by omega
  have h2d : decide ((m : Int) < 2) = true := decide_eq_true h2i
  clear _h hp hn hml
  go_enter Tryz.func108, Tryz.ntmps108
  go_wp2_with fail
  go_ret
  exact ⟨rfl, rfl⟩
 ·have h2i : ¬ (m : Int) < 2 := by omega
  have h2d : decide ((m : Int) < 2) = false := decide_eq_false h2i
  obtain ⟨b, off, rfl, hat⟩ := hp.addr (by omega)
  obtain ⟨z, hz⟩ : ∃ z, p[0]? = some z := ⟨_, List.getElem?_eq_getElem (by omega)⟩
  have hzd : p.getD 0 0 = z := by rw [List.getD_eq_getElem?_getD, hz]; rfl
  have y0 := hat.2 0 z hz
  rw [Nat.add_zero] at y0
  have hz0 := isN0 z
  have hcv := conv_Bi z w
  obtain ⟨n, hzn⟩ : ∃ n, z.toNat = n := ⟨_, rfl⟩
  have hn256 : n < 256 := by have := z.toNat_lt; omega
  have hm0 : (0 : Int) < m := by omega
  unfold gcmOk at hn
  rw [hzd, hzn] at hn
  rw [hzn] at hz0 hcv
  by_cases h0 : n = 0
  ·rw [decide_eq_true h0] at hz0
   clear _h hp hn hml hat hz hzd hcv hzn h0
   go_enter Tryz.func108, Tryz.ntmps108
   go_wp2_with fail
   go_ret
   exact ⟨rfl, rfl⟩
  ·rw [decide_eq_false h0] at hz0
   have hw1 : IntKind.i64.wrap (1 + (n : Int)) = 1 + (n : Int) := IntWalk.i64_in _ (by omega)
   have hlt : (m : Int) < 1 + n := by omega
   have hltd : decide ((m : Int) < 1 + n) = true := decide_eq_true hlt
   clear _h hp hn hml hat hz hzd hzn h0
   go_enter Tryz.func108, Tryz.ntmps108
   go_wp2_with fail
   go_ret
   exact ⟨rfl, rfl⟩
theorem st0_blk {w : World} {d c : Nat} {enc : Bool} (h : Blk w d 139 (st0 5 enc c)) (DV : Value) : Blk (w.setCell ⟨d, 9, none⟩ DV) d 139 #[.int .i64 5, .bool enc, .pointer (some ⟨c, 0, none⟩), .slice none 0 0, .slice none 0 0, .slice none 0 0, .int .i64 0, .slice none 0 0, .slice none 0 0, DV, .slice none 0 0, .bool false] := h.set_ 9 DV
set_option maxHeartbeats 4000000 in
theorem gcm_any (d c kb R cp : Nat) (enc : Bool) (ks : List UInt8) (A : Option Addr) (m cm : Nat) (p : List UInt8) (w : World) (h : Blk w d 139 (st0 5 enc c)) (hc : Cip w 0 c ks kb R cp) (hp : Own w 0 (.slice A m cm) p) (hm : m ≤ 2000000) (hok : gcmOk p) :
  Calls Tryz.prog 108 #[.pointer (some ⟨d, 0, none⟩), .slice A m cm] w fun e w' => e = .returned (.bool true) ∧ ∃ (gc cc : Nat) (M D : Vw), GcAt w' ⟨d, c, kb, R, cp, ks, 5, enc, gc, 0, cc, 32⟩ nilW (stepL 32 (gcmJ (encL ks R) p)) nilW M D nilW ∧
   M.l = encL ks R (gcmJ (encL ks R) p) ∧ D.l = p.drop (1 + (p.getD 0 0).toNat) ∧ w.heap.size ≤ gc ∧ (∀ ad, M.A = some ad → w.heap.size ≤ ad.block) ∧ (∀ ad, D.A = some ad → ∃ a0, A = some a0 ∧ ad.block = a0.block) ∧ Turn [d] w w' := by
 have hml := hp.len
 obtain ⟨h2, h3, h4⟩ := hok
 obtain ⟨g, cm', e⟩ := hp.form (by intro e; injection e with _ e2 _; omega)
 injection e with e1 e2 e3
 subst e1 e3
 clear e2
 obtain ⟨z, hz⟩ : ∃ z, p[0]? = some z := ⟨_, List.getElem?_eq_getElem (by omega)⟩
 have hzd : p.getD 0 0 = z := by rw [List.getD_eq_getElem?_getD, hz]; rfl
 have y0 : ∀ W, Old w W → W.cell? ⟨g, 0, none⟩ = some (B z) := fun W hO => by have := (hp.below hO).at_.2 0 z hz; rwa [Nat.add_zero] at this
 have hz0 := isN0 z
 have hcv := conv_Bi z
 obtain ⟨n, hzn⟩ : ∃ n, z.toNat = n := ⟨_, rfl⟩
 obtain ⟨J, hJ⟩ : ∃ J, gcmJ (encL ks R) p = J := ⟨_, rfl⟩
 rw [hJ]
 unfold gcmJ at hJ
 rw [hzd, hzn] at hJ h3 h4 ⊢
 rw [hzn] at hz0 hcv
 rw [decide_eq_false (by omega)] at hz0
 have hn256 : n < 256 := by have := z.toNat_lt; omega
 have hm0 : (0 : Int) < m := by omega
 have h2i : ¬ (m : Int) < 2 := by omega
 have h2d : decide ((m : Int) < 2) = false := decide_eq_false h2i
 have hw1 : IntKind.i64.wrap (1 + (n : Int)) = ((1 + n : Nat) : Int) := by rw [IntWalk.i64_in _ (by omega)]; omega
 have hlt : ¬ (m : Int) < ((1 + n : Nat) : Int) := by omega
 have hltd : decide ((m : Int) < ((1 + n : Nat) : Int)) = false := decide_eq_false hlt
 have hmc := hp.rd.2.1
 have hsb := fun W : World => slice_both (some ⟨g, 0, none⟩) m cm 1 (1 + n) (by omega) (by omega) W
 rw [if_neg (by omega), Nat.add_sub_cancel_left, show ((1 : Nat) : Int) = 1 from rfl] at hsb
 simp only [Option.map_some, Addr.add_mid, Nat.zero_add] at hsb
 have hiv : Rd w (some ⟨g, 1, none⟩) n (cm - 1) ((p.drop 1).take n) := by
  have h1 := hp.rd.cut (k := 1) (by omega)
  rw [if_neg (by omega)] at h1
  simp only [Option.map_some, Addr.add_mid, Nat.zero_add] at h1
  have h2 := h1.front (k := n) (by omega)
  exact h2
 have hR4 := hp.rd.cut (k := 1 + n) (by omega)
 simp only [Option.map_some, Addr.add_mid, Nat.zero_add] at hR4
 obtain ⟨A4, hA4⟩ : ∃ A4, (if cm = 1 + n then some (⟨g, 0, none⟩ : Addr) else some ⟨g, 1 + n, none⟩) = A4 := ⟨_, rfl⟩
 obtain ⟨n4, hn4⟩ : ∃ n4, m - (1 + n) = n4 := ⟨_, rfl⟩
 obtain ⟨c4, hc4⟩ : ∃ c4, cm - (1 + n) = c4 := ⟨_, rfl⟩
 rw [hA4, hn4, hc4] at hR4
 have hB4 : ∀ ad, A4 = some ad → ∃ a0, some (⟨g, 0, none⟩ : Addr) = some a0 ∧ ad.block = a0.block := fun ad e => by
  rw [← hA4] at e
  split at e <;> (cases e; exact ⟨_, rfl, rfl⟩)
 have HN4 := Lib.hid (And.intro hA4 (And.intro hn4 hc4))
 clear hA4 hn4 hc4
 have hNd : NoB w d := NoB.of h rfl
 have y0' := y0 w (Old.refl _)
 have f9 := h.frozen 9
 have y9 := h.cell 9
 simp only [st0, stB, List.getElem?_toArray, List.getElem?_cons_zero, List.getElem?_cons_succ] at y9
 have HH := Lib.hid (And.intro h (And.intro hc (And.intro hp (And.intro hml (And.intro hJ (And.intro hiv (And.intro hR4 (And.intro hB4 hNd))))))))
 have HY := Lib.hid (And.intro y0 (And.intro hzn hz))
 clear h hc hml hJ hiv hR4 hB4 hNd y0 hzn hz hzd hp h2 h3 h4
 go_enter Tryz.func108, Tryz.ntmps108
 go_upto_if 44 with fail
 rw [HN4.out.1, HN4.out.2.1, HN4.out.2.2, Nat.add_sub_cancel_left]
 have hBA := st0_blk HH.out.1 (.slice A4 n4 c4)
 have hTA : Turn [d] w (w.setCell ⟨d, 9, none⟩ (.slice A4 n4 c4)) := turn_put
 obtain ⟨wA, hwA⟩ : ∃ wA, w.setCell ⟨d, 9, none⟩ (.slice A4 n4 c4) = wA := ⟨_, rfl⟩
 rw [hwA] at hBA hTA ⊢
 have hNs : ∀ g ∈ [d], NoB w g := fun g hg => by simp at hg; subst hg; exact HH.out.2.2.2.2.2.2.2.2
 have hivA := HH.out.2.2.2.2.2.1.turnB hTA hNs
 have hcA : Cip wA 0 c ks kb R cp := HH.out.2.1.turn hTA (by simp; exact (HH.out.2.1.nd HH.out.1 HH.out.2.2.2.2.2.2.2.2).1) (by simp; exact (HH.out.2.1.nd HH.out.1 HH.out.2.2.2.2.2.2.2.2).2)
 have hrA := HH.out.2.2.2.2.2.2.1.turnB hTA hNs
 have HA := Lib.hid (And.intro hBA (And.intro hTA (And.intro hivA (And.intro hcA hrA))))
 have hfin : ∀ (w2 : World) (A6 : Option Addr) (n6 c6 : Nat) (base : Nat), Old wA w2 → w.heap.size ≤ base → Own w2 base (.slice A6 n6 c6) J → J.length = 16 → ∃ gc, A6 = some ⟨gc, 0, none⟩ ∧ n6 = 16 ∧ GM w d c enc (.slice A4 n4 c4) J (w2.setCell ⟨d, 5, none⟩ (.slice A6 n6 c6)) gc c6 := fun w2 A6 n6 c6 base hO hbs hown h16 => by
  have hl := hown.len
  obtain ⟨g6, c6', e6⟩ := hown.form (by intro e; injection e with _ e2 _; omega)
  injection e6 with e7 e8 e9
  subst e7
  obtain rfl : n6 = 16 := hl.trans h16
  have hge := hown.addr_ge _ rfl
  have hB2 := Blk.below HA.out.1 hO
  have hne : g6 ≠ d := fun e => by have := HH.out.1.lt; simp only at hge; omega
  refine ⟨g6, rfl, rfl, ⟨?_, ?_, Nat.le_trans hbs hge, hown.rd.2.1, hown.rd.2.2.1, HA.out.2.1.trans ((Turn.of_below [d] hO).trans turn_put (fun y hy => .inl hy)) (fun y hy => .inl hy)⟩⟩
  ·exact hB2.set_ 5 _
  ·have hc2 := CtrAt.of_own hown 0 rfl
   rw [List.drop_zero] at hc2
   exact hc2.turn (turn_put (d := d)) (by simp; exact hne)
 have HF := Lib.hid hfin
 have hwAs : w.heap.size ≤ wA.heap.size := hTA.size
 clear hBA hTA hNs hivA hcA hrA hfin hwA
 go_cut [] from 6 to 64 (fun wx => ∃ gc cc : Nat, GM w d c enc (.slice A4 n4 c4) J wx gc cc)
 case first =>
  by_cases h12 : n = 12
  ·have hb12 : ((n : Int) == 12) = true := by rw [h12]; rfl
   have hJ := HH.out.2.2.2.2.1
   rw [if_pos h12] at hJ
   have h16 : J.length = 16 := by
    have := HA.out.2.2.1.1
    rw [h12] at this
    rw [← hJ, List.length_append, ← this]
    rfl
   have h1 := HA.out.2.2.1
   rw [show (p.drop 1).take n = (p.drop 1).take 12 by rw [h12]] at h1
   have HJ := Lib.hid (And.intro hJ (And.intro h16 h1))
   clear hJ h16 h1 h12
   go_wp2_with (first | (go_at_call 43; refine (clone_own_q _ n _ _ wA HJ.out.2.2 (by omega)).mono ?_; rintro e w1 ⟨A5, n5, c5, rfl, ho5, hB5⟩; have H5 := Lib.hid (And.intro ho5 hB5); clear ho5 hB5) | (at_builtin; refine wp_app_lit (.tmp 47) (.tmp 48) wA.heap.size (.slice A5 n5 c5) _ H5.out.1 H5.out.2.size [0, 0, 0, 1] (by have := H5.out.1.len; have := HJ.out.2.2.1; omega) (by simp) rfl rfl rfl rfl rfl rfl ?_; intro A6 n6 c6 w2 hn6 hG; have hO6 : Old wA w2 := H5.out.2.trans ((Below.refl _ _).alloc H5.out.2.size _ |>.trans hG.below); have hO7 := hG.own; rw [HJ.out.1] at hO7; have hB6 := Blk.below HA.out.1 hO6; have f5 := hB6.frozen 5; have y5 := hB6.cell 5; simp only [List.getElem?_toArray, List.getElem?_cons_zero, List.getElem?_cons_succ] at y5; have H6 := Lib.hid (And.intro hO6 hO7); clear hO6 hO7 hB6 hG))
   go_meet
   case rel =>
    obtain ⟨gc, e1, e2, hGM⟩ := HF.out w2 A6 n6 c6 _ H6.out.1 hwAs H6.out.2 HJ.out.2.1
    exact ⟨gc, c6, hGM⟩
  ·have hb12 : ((n : Int) == 12) = false := by simp; omega
   have hn12 : ¬ (n : Int) = 12 := by omega
   have hJ := HH.out.2.2.2.2.1
   rw [if_neg h12] at hJ
   have HJ := Lib.hid hJ
   clear hJ h12
   have hlen16 : ∀ a b : List UInt8, (gh a b).length = 16 := fun a b => by unfold gh; simp [wr16, bytes64]
   have HL := Lib.hid hlen16
   clear hlen16
   go_wp2_with (first | (go_at_call 138; refine (hash_any d c kb R cp ks _ wA HA.out.1 rfl HA.out.2.2.2.1).mono ?_; rintro e w1 ⟨sb, rfl, hS1, hB1, hsb1⟩; have H1 := Lib.hid (And.intro hS1 hB1); clear hS1 hB1 hsb1) | (go_at_call 139; refine (filled_any _ n _ _ w1 (HA.out.2.2.1.below H1.out.2) (by have := HA.out.2.2.1.1; omega)).mono ?_; rintro e w2 ⟨A2, n2, c2, rfl, ho2, hB2⟩; have H2 := Lib.hid (And.intro ho2 hB2); clear ho2 hB2) | (go_at_call 140; refine (lengths_any 0 n w2 (by omega) (by omega)).mono ?_; rintro e w3 ⟨v3, rfl, ho3, hB3⟩; obtain ⟨A3, c3, rfl, _⟩ := ho3.shape; have H3 := Lib.hid (And.intro ho3 hB3); clear ho3 hB3) | (at_builtin; refine wp_app2 (.tmp 56) (.tmp 59) w1.heap.size (.slice A2 n2 c2) _ (H2.out.1.below H3.out.2) (Nat.le_trans H2.out.2.size H3.out.2.size) A3 (lenL 0 n).length c3 _ H3.out.1.rd (by have := HA.out.2.2.1.1; have a1 := padM_le ((p.drop 1).take n).length; simp only [List.length_append, zs_len, lenL, bytes64, List.length_cons, List.length_nil]; omega) rfl rfl rfl rfl ?_; intro A5 n5 c5 w5 hn5 hG; have H5 := Lib.hid hG; clear hG) | (go_at_call 137; have hS5 : Rd w5 (some ⟨sb, 0, none⟩) 16 16 (encL ks R (zs 16)) := (H1.out.1.rd.below (Old.trans H2.out.2 H3.out.2)).keep H5.out.below.size (fun ad had => H5.out.below.block _ (by cases had; exact H1.out.1.lt)); refine (gh_any _ _ _ _ _ _ _ w5 hS5 H5.out.own.rd).mono ?_; rintro e w6 ⟨g6, c6, rfl, ho6, hB6⟩; have hO6 : Old wA w6 := ((Old.trans (Old.trans H1.out.2 H2.out.2) H3.out.2).trans_below (H5.out.below.mono H1.out.2.size)).trans hB6; have hB7 := Blk.below HA.out.1 hO6; have f5 := hB7.frozen 5; have y5 := hB7.cell 5; simp only [List.getElem?_toArray, List.getElem?_cons_zero, List.getElem?_cons_succ] at y5; have H6 := Lib.hid (And.intro ho6 hO6); clear ho6 hO6 hB7 hB6 hS5))
   go_meet
   case rel =>
    have hJ2 : Own w6 w5.heap.size (.slice (some ⟨g6, 0, none⟩) 16 c6) J := by
     have e := HJ.out
     have hl : ((p.drop 1).take n).length = n := HA.out.2.2.1.1.symm
     rw [hl] at H6
     rw [← e]
     exact H6.out.1
    have h16 : J.length = 16 := hJ2.len.symm
    have hs5 : w.heap.size ≤ w5.heap.size := by have := H1.out.2.size; have := H5.out.below.size; have := H2.out.2.size; have := H3.out.2.size; omega
    obtain ⟨gc, e1, e2, hGM⟩ := HF.out w6 _ _ c6 _ H6.out.2 hs5 hJ2 h16
    exact ⟨gc, c6, hGM⟩
 case rest =>
  obtain ⟨gc, cc, hGM⟩ := hcut
  have y6 := hGM.blk.cell 6
  have f6 := hGM.blk.frozen 6
  simp only [List.getElem?_toArray, List.getElem?_cons_zero, List.getElem?_cons_succ] at y6
  have hB8 := hGM.blk.set_ 6 (.int .i64 32)
  have hT8 : Turn [d] w (wc.setCell ⟨d, 6, none⟩ (.int .i64 32)) := hGM.turn.trans turn_put (fun y hy => .inl hy)
  have hgd : gc ≠ d := fun e => by have := hGM.new; have := HH.out.1.lt; omega
  have hC8 : CtrAt (wc.setCell ⟨d, 6, none⟩ (.int .i64 32)) gc 0 J := hGM.ctr.turn (turn_put (d := d)) (by simp; exact hgd)
  obtain ⟨wB, hwB⟩ : ∃ wB, wc.setCell ⟨d, 6, none⟩ (.int .i64 32) = wB := ⟨_, rfl⟩
  rw [hwB] at hB8 hT8 hC8
  have hcB : Cip wB 0 c ks kb R cp := HH.out.2.1.turn hT8 (by simp; exact (HH.out.2.1.nd HH.out.1 HH.out.2.2.2.2.2.2.2.2).1) (by simp; exact (HH.out.2.1.nd HH.out.1 HH.out.2.2.2.2.2.2.2.2).2)
  have hq2 : ∀ W, Old wB W → W.cell? ⟨d, 2, none⟩ = some (.pointer (some ⟨c, 0, none⟩)) := fun W hO => by rw [(Blk.below hB8 hO).cell]; rfl
  have hq5 : ∀ W, Old wB W → W.cell? ⟨d, 5, none⟩ = some (.slice (some ⟨gc, 0, none⟩) 16 cc) := fun W hO => by rw [(Blk.below hB8 hO).cell]; rfl
  have HM := Lib.hid (And.intro hGM (And.intro hB8 (And.intro hT8 (And.intro hC8 (And.intro hcB (And.intro hq2 (And.intro hq5 hgd)))))))
  have HW := Lib.hid hwB
  clear hGM hB8 hT8 hC8 hcB hq2 hq5 hgd hwB
  go_upto_region 9 with fail
  rw [HW.out]
  refine region_oldZ 12 (by kernel_rfl) (fun wd hHeld hSz => ?_)
  have HSz := Lib.hid hSz
  clear hSz
  have hOd := hHeld
  refine takeZ (z := 12) (by kernel_rfl) (i := 0) (v := ?_) rfl (by kernel_rfl) (by kernel_rfl) (by kernel_rfl) (fun _ _ _ h => h) (Or.inl ⟨by rfl, ?_⟩) hHeld ?_
  rotate_left
  focus (intro wq hSw; clear hSw; go_simp; try with_reducible rfl)
  try simp only [Act.put, List.setIfInBounds_toArray, List.set_cons_zero, List.set_cons_succ]
  refine takeZ (z := 12) (by kernel_rfl) (i := 1) (v := ?_) rfl (by kernel_rfl) (by kernel_rfl) (by kernel_rfl) (fun _ _ _ h => h) (Or.inl ⟨by rfl, ?_⟩) hHeld ?_
  rotate_left
  focus (intro wq hSw; clear hSw; go_simp; try with_reducible rfl)
  try simp only [Act.put, List.setIfInBounds_toArray, List.set_cons_zero, List.set_cons_succ]
  refine takeZ (z := 12) (by kernel_rfl) (i := 2) (v := ?_) rfl (by kernel_rfl) (by kernel_rfl) (by kernel_rfl) (fun _ _ _ h => h) (Or.inl ⟨by rfl, ?_⟩) hHeld ?_
  rotate_left
  focus (intro wq hSw; clear hSw; go_simp; try with_reducible rfl)
  try simp only [Act.put, List.setIfInBounds_toArray, List.set_cons_zero, List.set_cons_succ]
  refine takeZ (z := 12) (by kernel_rfl) (i := 3) (v := ?_) rfl (by kernel_rfl) (by kernel_rfl) (by kernel_rfl) (fun _ _ _ h => h) (Or.inl ⟨by rfl, ?_⟩) hHeld ?_
  rotate_left
  focus (intro wq hSw; clear hSw; go_simp; try with_reducible rfl)
  try simp only [Act.put, List.setIfInBounds_toArray, List.set_cons_zero, List.set_cons_succ]
  refine takeZ (z := 12) (by kernel_rfl) (i := 4) (v := ?_) rfl (by kernel_rfl) (by kernel_rfl) (by kernel_rfl) (fun _ _ _ h => h) (Or.inl ⟨by rfl, ?_⟩) hHeld ?_
  rotate_left
  focus (intro wq hSw; have r2 := HM.out.2.2.2.2.2.1 wq hSw; clear hSw; go_simp; try with_reducible rfl)
  try simp only [Act.put, List.setIfInBounds_toArray, List.set_cons_zero, List.set_cons_succ]
  refine takeZ (z := 12) (by kernel_rfl) (i := 5) (v := ?_) rfl (by kernel_rfl) (by kernel_rfl) (by kernel_rfl) (fun _ _ _ h => h) (Or.inl ⟨by rfl, ?_⟩) hHeld ?_
  rotate_left
  focus (intro wq hSw; clear hSw; go_simp; try with_reducible rfl)
  try simp only [Act.put, List.setIfInBounds_toArray, List.set_cons_zero, List.set_cons_succ]
  refine takeZ (z := 12) (by kernel_rfl) (i := 6) (v := ?_) rfl (by kernel_rfl) (by kernel_rfl) (by kernel_rfl) (fun _ _ _ h => h) (Or.inl ⟨by rfl, ?_⟩) hHeld ?_
  rotate_left
  focus (intro wq hSw; clear hSw; go_simp; try with_reducible rfl)
  try simp only [Act.put, List.setIfInBounds_toArray, List.set_cons_zero, List.set_cons_succ]
  refine takeZ (z := 12) (by kernel_rfl) (i := 7) (v := ?_) rfl (by kernel_rfl) (by kernel_rfl) (by kernel_rfl) (fun _ _ _ h => h) (Or.inl ⟨by rfl, ?_⟩) hHeld ?_
  rotate_left
  focus (intro wq hSw; clear hSw; go_simp; try with_reducible rfl)
  try simp only [Act.put, List.setIfInBounds_toArray, List.set_cons_zero, List.set_cons_succ]
  refine takeZ (z := 12) (by kernel_rfl) (i := 8) (v := ?_) rfl (by kernel_rfl) (by kernel_rfl) (by kernel_rfl) (fun _ _ _ h => h) (Or.inl ⟨by rfl, ?_⟩) hHeld ?_
  rotate_left
  focus (intro wq hSw; have r5 := HM.out.2.2.2.2.2.2.1 wq hSw; clear hSw; go_simp; try with_reducible rfl)
  try simp only [Act.put, List.setIfInBounds_toArray, List.set_cons_zero, List.set_cons_succ]
  refine wpAnyT_ready (rs := [9]) (by kernel_rfl) (by simp) ?_
  refine consZ rfl (fun K hK => ?_) AllReadyT.nil
  go_simp
  refine (enc_any 0 c ks kb R cp _ _ _ wd (HM.out.2.2.2.2.1.below hOd) ((HM.out.2.2.2.1.below hOd).rd cc HM.out.1.c16 HM.out.1.ccm)).mono ?_
  rintro e wa ⟨sb, rfl, hsb, hS, hBw⟩
  refine hK.out _ _ (hHeld.trans hBw) (fun hHeld => ?_)
  clear hK K
  try simp only [Act.put, List.setIfInBounds_toArray, List.set_cons_zero, List.set_cons_succ]
  refine wpAnyT_ready (rs := [10]) (by kernel_rfl) (by simp) ?_
  refine consZ rfl (fun K hK => ?_) AllReadyT.nil
  go_simp
  refine hK.out _ _ hHeld (fun hHeld => ?_)
  clear hK K
  try simp only [Act.put, List.setIfInBounds_toArray, List.set_cons_zero, List.set_cons_succ]
  refine takeZ (z := 12) (by kernel_rfl) (i := 11) (v := ?_) rfl (by kernel_rfl) (by kernel_rfl) (by kernel_rfl) (fun _ _ _ h => h) (Or.inl ⟨by rfl, ?_⟩) hHeld ?_
  rotate_left
  focus (intro wq hSw; clear hSw; go_simp; try with_reducible rfl)
  try simp only [Act.put, List.setIfInBounds_toArray, List.set_cons_zero, List.set_cons_succ]
  have f8 := (Blk.below HM.out.2.1 (hOd.trans hBw)).frozen 8
  have q8 := (Blk.below HM.out.2.1 (hOd.trans hBw)).cell 8
  simp only [List.setIfInBounds_toArray, List.set_cons_zero, List.set_cons_succ, List.getElem?_toArray, List.getElem?_cons_zero, List.getElem?_cons_succ] at q8
  refine wpAnyT_ready (rs := [12]) (by kernel_rfl) (by simp) ?_
  refine consZl rfl (fun K hK => ?_) AllReadyT.nil
  go_simp
  refine hK.out _ _ ?_
  clear hK K
  try simp only [Act.put, List.setIfInBounds_toArray, List.set_cons_zero, List.set_cons_succ]
  refine wpAnyT_done (by kernel_rfl) ?_ _
  refine NoPanic.normal ?_
  try simp only [Exit.then]
  have hOa : Old wB wa := hOd.trans hBw
  have hBa := Blk.below HM.out.2.1 hOa
  have hB9 := hBa.set_ 8 (.slice (some ⟨sb, 0, none⟩) 16 16)
  have hT9 : Turn [d] w (wa.setCell ⟨d, 8, none⟩ (.slice (some ⟨sb, 0, none⟩) 16 16)) := (HM.out.2.2.1.trans (Turn.of_below [d] hOa) (fun y hy => .inl hy)).trans turn_put (fun y hy => .inl hy)
  have hTd : Turn [d] wa (wa.setCell ⟨d, 8, none⟩ (.slice (some ⟨sb, 0, none⟩) 16 16)) := turn_put
  have hNa : ∀ g ∈ [d], NoB wa g := fun g hg => by simp at hg; subst hg; exact NoB.of hBa rfl
  have hM9 := hS.rd.turnB hTd hNa
  have hC9 : CtrAt (wa.setCell ⟨d, 8, none⟩ (.slice (some ⟨sb, 0, none⟩) 16 16)) gc 0 J := (HM.out.2.2.2.1.below hOa).turn hTd (by simp; exact HM.out.2.2.2.2.2.2.2)
  have hc9 : Cip (wa.setCell ⟨d, 8, none⟩ (.slice (some ⟨sb, 0, none⟩) 16 16)) 0 c ks kb R cp := HH.out.2.1.turn hT9 (by simp; exact (HH.out.2.1.nd HH.out.1 HH.out.2.2.2.2.2.2.2.2).1) (by simp; exact (HH.out.2.1.nd HH.out.1 HH.out.2.2.2.2.2.2.2.2).2)
  have hD9 := HH.out.2.2.2.2.2.2.1.turnB hT9 (fun g hg => by simp at hg; subst hg; exact HH.out.2.2.2.2.2.2.2.2)
  obtain ⟨W9, hW9⟩ : ∃ W9, wa.setCell ⟨d, 8, none⟩ (.slice (some ⟨sb, 0, none⟩) 16 16) = W9 := ⟨_, rfl⟩
  rw [hW9] at hB9 hT9 hM9 hC9 hc9 hD9
  have hnew := HM.out.1.new
  have hcl := HH.out.2.1.lt
  have hsz : w.heap.size ≤ sb := Nat.le_trans HM.out.2.2.1.size (Nat.le_trans hOd.size hsb)
  have hsg : gc < sb := Nat.lt_of_lt_of_le (HM.out.2.2.2.1.below hOd).lt hsb
  have hgl : g < w.heap.size := HH.out.2.2.1.rd.lt _ rfl
  obtain ⟨X, hX⟩ : ∃ X : GX, X = ⟨d, c, kb, R, cp, ks, 5, enc, gc, 0, cc, 32⟩ := ⟨_, rfl⟩
  have hok : (X.cx nilW.v (.slice (some ⟨sb, 0, none⟩) 16 16) (.slice A4 n4 c4) nilW.v).Ok := by
   subst hX
   exact ⟨rfl, rfl, rfl, rfl, HM.out.1.c16, HM.out.1.ccm, (by show 32 ≤ 1000; omega), (by show c ≠ gc; omega), (by show kb ≠ gc; omega), rfl⟩
  have hcnt : CntAt W9 (X.cx nilW.v (.slice (some ⟨sb, 0, none⟩) 16 16) (.slice A4 n4 c4) nilW.v) J none 0 0 [] := by
   subst hX
   exact ⟨hok, hB9, hc9, hC9, Rd.nil _, fun ad e => by cases e⟩
  have hstep := hcnt.step
  have hXd : (X.cx nilW.v (.slice (some ⟨sb, 0, none⟩) 16 16) (.slice A4 n4 c4) nilW.v).d = d := by subst hX; rfl
  have hXg : (X.cx nilW.v (.slice (some ⟨sb, 0, none⟩) 16 16) (.slice A4 n4 c4) nilW.v).gc = gc := by subst hX; rfl
  have hXw : (X.cx nilW.v (.slice (some ⟨sb, 0, none⟩) 16 16) (.slice A4 n4 c4) nilW.v).wd = 32 := by subst hX; rfl
  rw [hXd, hXg, hXw] at hstep
  rw [hW9]
  have HZ := Lib.hid (And.intro hstep (And.intro hT9 (And.intro hM9 (And.intro hD9 (And.intro hnew (And.intro hsz (And.intro hsg hgl)))))))
  clear hOa hBa hB9 hT9 hTd hNa hM9 hC9 hc9 hD9 hW9 hnew hcl hsz hsg hgl hok hcnt hstep hXd hXg hXw hsb hS hBw hOd hHeld f8 q8
  go_wp2_with fail
  refine HZ.out.1.mono ?_
  rintro e w3 ⟨rfl, hC3, hT3⟩
  have H3 := Lib.hid (And.intro hC3 hT3)
  clear hC3 hT3
  go_wp2_with fail
  go_ret
  have hB4 := HH.out.2.2.2.2.2.2.2.1
  have hn4 : ∀ ad, A4 = some ad → ad.block ≠ gc := fun ad e => by
   obtain ⟨a0, e1, e2⟩ := hB4 ad e
   cases e1
   have h1 := HZ.out.2.2.2.2.1
   have h2 := HZ.out.2.2.2.2.2.2.2
   simp only at e2
   omega
  refine ⟨rfl, gc, cc, ⟨some ⟨sb, 0, none⟩, 16, 16, encL ks R J⟩, ⟨A4, n4, c4, p.drop (1 + n)⟩, ?_, rfl, rfl, HZ.out.2.2.2.2.1, fun ad e => by cases e; exact HZ.out.2.2.2.2.2.1, hB4, HZ.out.2.1.trans H3.out.2 (fun y hy => .inr (by simp at hy; rw [hy]; exact HZ.out.2.2.2.2.1))⟩
  subst hX
  refine ⟨H3.out.1, OwnO.nil _ _, HZ.out.2.2.1.turn H3.out.2 (fun ad e => by cases e; simp; have := HZ.out.2.2.2.2.2.2.1; omega), fun _ => rfl, HZ.out.2.2.2.1.turn H3.out.2 (fun ad e => by simp; exact hn4 ad e), Own.nil _ _, fun ad h => ?_, fun ad h => ?_, ⟨Apart.none_l _, Apart.none_l _, Apart.none_l _, Apart.none_l _⟩, ⟨Apart.none_l _, Apart.none_l _, Apart.none_l _⟩⟩
  ·rcases h with h | h | h | h
   ·cases h
   ·cases h
    have := HZ.out.2.2.2.2.2.2.1
    show sb ≠ gc
    omega
   ·exact hn4 ad h
   ·cases h
  ·rcases h with h | h <;> cases h
end Go.Proofs.YtgjnmpjimhbfgaaGreatDoor
