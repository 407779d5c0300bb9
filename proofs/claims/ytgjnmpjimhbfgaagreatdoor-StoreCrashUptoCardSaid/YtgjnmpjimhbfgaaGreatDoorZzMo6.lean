/-
  Modes: encrypting by the counter: count.
-/
import Derived.Test.YtgjnmpjimhbfgaaGreatDoorMo4
import Derived.Test.YtgjnmpjimhbfgaaGreatDoorZzEqB
import Derived.Test.YtgjnmpjimhbfgaaGreatDoorMo2
import Derived.Test.YtgjnmpjimhbfgaaGreatDoorZzAesBx
import Derived.Deep.DeepCutAuto
namespace Go.Proofs.YtgjnmpjimhbfgaaGreatDoor
set_option maxRecDepth 100000
open Go.RowKit
def cnt1 (E : List UInt8 → List UInt8) (wd : Nat) : List UInt8 → List UInt8 → List UInt8 → List UInt8 × List UInt8 × List UInt8
 | [], pad, ctr => ([], pad, ctr)
 | x :: b, y :: pad, ctr => ((x ^^^ y) :: (cnt1 E wd b pad ctr).1, (cnt1 E wd b pad ctr).2)
 | x :: b, [], ctr => match E ctr with
  | [] => ([], [], ctr)
  | y :: pad => ((x ^^^ y) :: (cnt1 E wd b pad (stepL wd ctr)).1, (cnt1 E wd b pad (stepL wd ctr)).2)
theorem cnt1_fill (E : List UInt8 → List UInt8) (wd : Nat) (b ctr : List UInt8) (hb : b ≠ []) (hE : E ctr ≠ []) : cnt1 E wd b [] ctr = cnt1 E wd b (E ctr) (stepL wd ctr) := by
 cases b with
 | nil => exact absurd rfl hb
 | cons x b =>
  cases h : E ctr with
  | nil => exact absurd h hE
  | cons y p => simp only [cnt1, h]
theorem cnt1_part (E : List UInt8 → List UInt8) (wd : Nat) (ctr : List UInt8) : ∀ (n : Nat) (b pad : List UInt8), n ≤ b.length → n ≤ pad.length →
  cnt1 E wd b pad ctr = (xorL (b.take n) (pad.take n) ++ (cnt1 E wd (b.drop n) (pad.drop n) ctr).1, (cnt1 E wd (b.drop n) (pad.drop n) ctr).2)
 | 0, b, pad, _, _ => by simp [xorL]
 | n + 1, [], pad, h, _ => by simp at h
 | n + 1, x :: b, [], _, h => by simp at h
 | n + 1, x :: b, y :: pad, h1, h2 => by
  have ih := cnt1_part E wd ctr n b pad (by simpa using h1) (by simpa using h2)
  simp only [cnt1, List.take_succ_cons, List.drop_succ_cons]
  rw [ih]
  simp [xorL]
theorem cnt1_append (E : List UInt8 → List UInt8) (wd : Nat) (hE : ∀ l : List UInt8, l.length = 16 → E l ≠ []) : ∀ (a b pad ctr : List UInt8), ctr.length = 16 →
  cnt1 E wd (a ++ b) pad ctr = ((cnt1 E wd a pad ctr).1 ++ (cnt1 E wd b (cnt1 E wd a pad ctr).2.1 (cnt1 E wd a pad ctr).2.2).1, (cnt1 E wd b (cnt1 E wd a pad ctr).2.1 (cnt1 E wd a pad ctr).2.2).2)
 | [], b, pad, ctr, _ => by simp [cnt1]
 | x :: a, b, y :: pad, ctr, hc => by
  have ih := cnt1_append E wd hE a b pad ctr hc
  simp only [List.cons_append, cnt1]
  rw [ih]
 | x :: a, b, [], ctr, hc => by
  cases h : E ctr with
  | nil => exact absurd h (hE ctr hc)
  | cons y p =>
   have ih := cnt1_append E wd hE a b p (stepL wd ctr) (by rw [stepL_len]; exact hc)
   simp only [List.cons_append, cnt1, h]
   rw [ih]
theorem cnt1_len (E : List UInt8 → List UInt8) (wd : Nat) (hE : ∀ l : List UInt8, l.length = 16 → E l ≠ []) : ∀ (a pad ctr : List UInt8), ctr.length = 16 → (cnt1 E wd a pad ctr).1.length = a.length ∧ (cnt1 E wd a pad ctr).2.2.length = 16
 | [], pad, ctr, hc => ⟨rfl, hc⟩
 | x :: a, y :: pad, ctr, hc => by simp [cnt1, cnt1_len E wd hE a pad ctr hc]
 | x :: a, [], ctr, hc => by
  cases h : E ctr with
  | nil => exact absurd h (hE ctr hc)
  | cons y p => simp [cnt1, h, cnt1_len E wd hE a p (stepL wd ctr) (by rw [stepL_len]; exact hc)]
theorem cellOld' {w w' : World} {b o : Nat} {v : Value} (ht : Old w w') (h : w.cell? ⟨b, o, none⟩ = some v) : w'.cell? ⟨b, o, none⟩ = some v := cell_turn h (Turn.of_below [] ht) (by simp)
theorem Rd.turnB {w w' : World} {A : Option Addr} {m c : Nat} {l : List UInt8} {S : List Nat} (h : Rd w A m c l) (ht : Turn S w w') (hS : ∀ g ∈ S, NoB w g) : Rd w' A m c l := by
 rcases Nat.eq_zero_or_pos m with rfl | hm
 ·obtain rfl : l = [] := List.length_eq_zero_iff.1 h.1.symm
  obtain ⟨h1, h2, h3, h4⟩ := h
  refine ⟨h1, h2, h3, ?_⟩
  rcases h4 with h4 | ⟨b, off, hA, hat⟩
  ·exact .inl h4
  ·exact .inr ⟨b, off, hA, Nat.lt_of_lt_of_le hat.1 ht.size, fun k x hk => by simp at hk⟩
 ·exact h.turnN hm ht hS
theorem enc_ne (ks : List UInt8) (R : Nat) (l : List UInt8) (hl : l.length = 16) (hk : ks.length = 16 * R) : (encL ks R l).length = 16 := encF_len ks R l hk hl R (Nat.le_refl _)
structure CX where
 d : Nat
 gc : Nat
 oc : Nat
 cc : Nat
 c : Nat
 K : Nat
 R : Nat
 cp : Nat
 wd : Nat
 ks : List UInt8
 cs : Array Value
structure CX.Ok (x : CX) : Prop where
 size : x.cs.size = 12
 c2 : x.cs[2]? = some (.pointer (some ⟨x.c, 0, none⟩))
 c5 : x.cs[5]? = some (.slice (some ⟨x.gc, x.oc, none⟩) 16 x.cc)
 c6 : x.cs[6]? = some (.int .i64 (x.wd : Int))
 cc16 : 16 ≤ x.cc
 ccm : x.cc ≤ maxLen
 wd1 : x.wd ≤ 1000
 ne1 : x.c ≠ x.gc
 ne2 : x.K ≠ x.gc
 nob : x.cs.toList.all Value.noByte = true
structure CntAt (w : World) (x : CX) (ctr : List UInt8) (P : Option Addr) (np q : Nat) (pad : List UInt8) : Prop where
 ok : x.Ok
 blk : Blk w x.d 139 (x.cs.setIfInBounds 7 (.slice P np q))
 cip : Cip w 0 x.c x.ks x.K x.R x.cp
 ctr : CtrAt w x.gc x.oc ctr
 pad : Rd w P np q pad
 ne : ∀ ad, P = some ad → ad.block ≠ x.gc
theorem all_set {cs : Array Value} {i : Nat} {v : Value} (h : cs.toList.all Value.noByte = true) (hv : Value.noByte v = true) : (cs.setIfInBounds i v).toList.all Value.noByte = true := by
 rw [List.all_eq_true] at h ⊢
 intro u hu
 rw [Array.toList_setIfInBounds] at hu
 rcases List.mem_or_eq_of_mem_set hu with h1 | rfl
 ·exact h u h1
 ·exact hv
section
variable {w w' : World} {x : CX} {ctr : List UInt8} {P : Option Addr} {np q : Nat} {pad : List UInt8}
theorem CntAt.noB (h : CntAt w x ctr P np q pad) : NoB w x.d := NoB.of h.blk (all_set h.ok.nob rfl)
theorem CntAt.dgc (h : CntAt w x ctr P np q pad) : x.d ≠ x.gc := (h.ctr.ne_ h.blk (by decide)).symm
theorem CntAt.below (h : CntAt w x ctr P np q pad) (hb : Old w w') : CntAt w' x ctr P np q pad := ⟨h.ok, h.blk.below hb, h.cip.below hb, h.ctr.below hb, h.pad.below hb, h.ne⟩
theorem CntAt.cell (h : CntAt w x ctr P np q pad) (i : Nat) (hi : i ≠ 7) : w.cell? ⟨x.d, i, none⟩ = x.cs[i]? := by
 rw [h.blk.cell, Array.getElem?_setIfInBounds_ne (by omega)]
theorem CntAt.cell2 (h : CntAt w x ctr P np q pad) : w.cell? ⟨x.d, 2, none⟩ = some (.pointer (some ⟨x.c, 0, none⟩)) := (h.cell 2 (by decide)).trans h.ok.c2
theorem CntAt.cell5 (h : CntAt w x ctr P np q pad) : w.cell? ⟨x.d, 5, none⟩ = some (.slice (some ⟨x.gc, x.oc, none⟩) 16 x.cc) := (h.cell 5 (by decide)).trans h.ok.c5
theorem CntAt.cell7 (h : CntAt w x ctr P np q pad) : w.cell? ⟨x.d, 7, none⟩ = some (.slice P np q) := by
 rw [h.blk.cell, Array.getElem?_setIfInBounds_self_of_lt (by rw [h.ok.size]; decide)]
theorem CntAt.frozen (h : CntAt w x ctr P np q pad) (i : Nat) : w.frozen? ⟨x.d, i, none⟩ = false := h.blk.frozen i
theorem Cip.turn {W W' : World} {S : List Nat} {b0 c : Nat} {ks : List UInt8} {K R cp : Nat} (h : Cip W b0 c ks K R cp) (ht : Turn S W W') (h1 : c ∉ S) (h2 : K ∉ S) : Cip W' b0 c ks K R cp := by
 obtain ⟨⟨a0, a1, a2⟩, b, d, e, f, g, i, j, k, l, m⟩ := h
 exact ⟨⟨a0, a1, a2.turn ht h1⟩, b, d, Nat.lt_of_lt_of_le e ht.size, f, g, i, j, k, l, fun n x hn => cell_turn (m n x hn) ht h2⟩
theorem Cip.lt {W : World} {b0 c : Nat} {ks : List UInt8} {K R cp : Nat} (h : Cip W b0 c ks K R cp) : c < W.heap.size ∧ K < W.heap.size := by
 obtain ⟨⟨a0, a1, a2⟩, b, d, e, _⟩ := h
 exact ⟨a2.lt, e⟩
theorem Cip.nd {W : World} {b0 c : Nat} {ks : List UInt8} {K R cp : Nat} (h : Cip W b0 c ks K R cp) {d : Nat} {cs : Array Value} (hd : Blk W d 139 cs) (hn : NoB W d) : c ≠ d ∧ K ≠ d := by
 obtain ⟨⟨a0, a1, a2⟩, b, d, e, f, g, i, j, k, l, m⟩ := h
 refine ⟨a2.ne_ hd (by decide), fun e2 => ?_⟩
 obtain ⟨t, cs2, h1, h2⟩ := hn
 subst e2
 obtain ⟨z, hz⟩ : ∃ z, ks[0]? = some z := ⟨_, List.getElem?_eq_getElem (by omega)⟩
 have h3 := m 0 z hz
 rw [h1.cell] at h3
 exact h2 _ (Array.mem_toList_iff.2 (Array.mem_of_getElem? h3)) z rfl
theorem CntAt.put (h : CntAt w x ctr P np q pad) {A : Option Addr} {n c : Nat} {l : List UInt8} (hr : Rd w A n c l) (hne : ∀ ad, A = some ad → ad.block ≠ x.gc) :
  CntAt (w.setCell ⟨x.d, 7, none⟩ (.slice A n c)) x ctr A n c l := by
 have ht : Turn [x.d] w (w.setCell ⟨x.d, 7, none⟩ (.slice A n c)) := (Turn.refl _ _).setCell (.inl (by simp)) _
 have hN := h.noB
 refine ⟨h.ok, ?_, h.cip.turn ht (by simp; exact (h.cip.nd h.blk hN).1) (by simp; exact (h.cip.nd h.blk hN).2), h.ctr.turn ht (by simp; exact h.dgc.symm), hr.turnB ht (fun g hg => by simp at hg; subst hg; exact hN), hne⟩
 have := h.blk.set_ 7 (.slice A n c)
 rwa [Array.setIfInBounds_setIfInBounds] at this
theorem CntAt.step (h : CntAt w x ctr P np q pad) : Calls Tryz.prog 110 #[.pointer (some ⟨x.d, 0, none⟩)] w fun e w' => e = .returned (.tuple #[]) ∧ CntAt w' x (stepL x.wd ctr) P np q pad ∧ Turn [x.gc] w w' := by
 refine (step_any x.d x.gc x.oc x.cc x.wd _ ctr w h.blk (by rw [Array.getElem?_setIfInBounds_ne (by decide)]; exact h.ok.c5) (by rw [Array.getElem?_setIfInBounds_ne (by decide)]; exact h.ok.c6) h.ctr h.ok.cc16 h.ok.wd1).mono ?_
 rintro e w' ⟨rfl, h1, h2⟩
 exact ⟨rfl, ⟨h.ok, h.blk.turn h2 (by simp; exact h.dgc), h.cip.turn h2 (by simp; exact h.ok.ne1) (by simp; exact h.ok.ne2), h1, h.pad.turn h2 (fun ad had => by simp; exact h.ne ad had), h.ne⟩, h2⟩
end
theorem region_belowB {P : Program} {ops : Array Oper} {Q : Exit → Act → World → Prop} {id : Nat} {a : Act} {w : World} (B : Nat) (hB : B ≤ w.heap.size) (hm : P.follows .mixedOrders = true)
  (h : ∀ wd, Old w wd → Below B w wd → wpAnyH P .any ops (NoPanic Q) (Below B w) ops.size (Array.replicate ops.size false) a wd) : (Code.region id ops true).wp P Q a w :=
 wp_region_noPanic (wp_region_held_drew hm ((Old.drew (Old.refl w)).mono hB) (fun hS => h _ (Old.drew (Old.refl w)) hS))
structure CI (w : World) (x : CX) (P A : Option Addr) (l : List UInt8) (tot : List UInt8 × List UInt8 × List UInt8) (wr : World) (A1 : Option Addr) (n1 c1 : Nat) (b : List UInt8) (A2 : Option Addr) (n2 c2 : Nat) (ob ctr1 : List UInt8) (P1 : Option Addr) (np1 q1 : Nat) (pad1 : List UInt8) : Prop where
 rb : Rd wr A1 n1 c1 b
 ab : ∀ ad, A1 = some ad → ∃ ad0, A = some ad0 ∧ ad.block = ad0.block
 out : Own wr w.heap.size (.slice A2 n2 c2) ob
 len : ob.length + b.length = l.length
 cnt : CntAt wr x ctr1 P1 np1 q1 pad1
 pb : ∀ ad, P1 = some ad → (∃ ad0, P = some ad0 ∧ ad.block = ad0.block) ∨ w.heap.size ≤ ad.block
 po : ∀ ad, P1 = some ad → (Value.slice A2 n2 c2).ownBlock ≠ some ad.block
 turn : Turn [x.d, x.gc] w wr
 tot : (ob ++ (cnt1 (encL x.ks x.R) x.wd b pad1 ctr1).1, (cnt1 (encL x.ks x.R) x.wd b pad1 ctr1).2) = tot
theorem xorL_take (a b : List UInt8) : xorL a (b.take a.length) = xorL a b := by
 unfold xorL
 induction a generalizing b with
 | nil => simp
 | cons x a ih => cases b <;> simp [ih]
section
variable {w wc wa wb : World} {x : CX} {P A : Option Addr} {l : List UInt8} {tot : List UInt8 × List UInt8 × List UInt8} {A1 : Option Addr} {n1 c1 : Nat} {b : List UInt8} {A2 : Option Addr} {n2 c2 : Nat} {ob ctr3 : List UInt8} {P3 : Option Addr} {np3 q3 : Nat} {pad3 : List UInt8}
 {A5 : Option Addr} {n5 c5 k : Nat} {l5 : List UInt8}
theorem CI.mid (h : CI w x P A l tot wc A1 n1 c1 b A2 n2 c2 ob ctr3 P3 np3 q3 pad3) (hlt : x.d < w.heap.size ∧ x.gc < w.heap.size) (hck : x.c < w.heap.size ∧ x.K < w.heap.size) (ho : Old wc wa) (hG : Grew w.heap.size wa wb (.slice A2 n2 c2) A5 n5 c5 l5) :
  Own wb w.heap.size (.slice A5 n5 c5) l5 ∧ CntAt wb x ctr3 P3 np3 q3 pad3 ∧ Turn [x.d, x.gc] w wb ∧ (∀ {A' : Option Addr} {m c : Nat} {l' : List UInt8}, Rd wc A' m c l' → (∀ ad, A' = some ad → (Value.slice A2 n2 c2).ownBlock ≠ some ad.block) → Rd wb A' m c l') ∧
  (∀ ad, P3 = some ad → (Value.slice A5 n5 c5).ownBlock ≠ some ad.block) := by
 have hT : Turn (Value.slice A2 n2 c2).ownBlock.toList wc wb := (Turn.of_below _ ho).grown hG.grown (fun k hk => .inl (by rw [hk]; simp))
 have hX : ∀ g, g < w.heap.size → g ∉ (Value.slice A2 n2 c2).ownBlock.toList := fun g hg hm => by
  have := (h.out.lt (by simpa using hm)).1
  omega
 refine ⟨hG.own, ⟨h.cnt.ok, h.cnt.blk.turn hT (hX _ hlt.1), h.cnt.cip.turn hT (hX _ hck.1) (hX _ hck.2), h.cnt.ctr.turn hT (hX _ hlt.2), h.cnt.pad.turn hT (fun ad had hm => h.po ad had (by simpa using hm)), h.cnt.ne⟩, ?_, fun hr hn => hr.turn hT (fun ad had hm => hn ad had (by simpa using hm)), fun ad had e => ?_⟩
 ·refine h.turn.trans hT (fun g hg => .inr (h.out.lt (by simpa using hg)).1)
 ·rcases hG.at_ with h1 | h1
  ·exact h.po ad had (h1.symm.trans e)
  ·rw [e] at h1
   injection h1 with h1
   have := h.cnt.pad.lt ad had
   have := ho.size
   omega
theorem CntAt.drew {ctr : List UInt8} {np q : Nat} {pad : List UInt8} (h : CntAt w x ctr P np q pad) : CntAt w.drew x ctr P np q pad := ⟨h.ok, h.blk, h.cip, h.ctr, h.pad, h.ne⟩
theorem CI.drew (h : CI w x P A l tot wc A1 n1 c1 b A2 n2 c2 ob ctr3 P3 np3 q3 pad3) : CI w x P A l tot wc.drew A1 n1 c1 b A2 n2 c2 ob ctr3 P3 np3 q3 pad3 := ⟨h.rb, h.ab, h.out, h.len, h.cnt.drew, h.pb, h.po, h.turn.drew, h.tot⟩
theorem CI.next (h : CI w x P A l tot wc A1 n1 c1 b A2 n2 c2 ob ctr3 P3 np3 q3 pad3) (hlt : x.d < w.heap.size ∧ x.gc < w.heap.size) (hck : x.c < w.heap.size ∧ x.K < w.heap.size) (hAb : ∀ ad, A = some ad → ad.block < w.heap.size) (ho : Old wc wa) (hk : k ≤ n1) (hk2 : k ≤ np3)
  (hG : Grew w.heap.size wa wb (.slice A2 n2 c2) A5 n5 c5 (ob ++ xorL (b.take k) pad3)) {A4 P4 : Option Addr} {n4 c4 np4 q4 : Nat} (hR4 : Rd wc A4 n4 c4 (b.drop k)) (hB4 : ∀ ad', A4 = some ad' → ∃ ad, A1 = some ad ∧ ad'.block = ad.block)
  (hRp4 : Rd wc P4 np4 q4 (pad3.drop k)) (hBp4 : ∀ ad', P4 = some ad' → ∃ ad, P3 = some ad ∧ ad'.block = ad.block) :
  CI w x P A l tot (wb.setCell ⟨x.d, 7, none⟩ (.slice P4 np4 q4)) A4 n4 c4 (b.drop k) A5 n5 c5 (ob ++ xorL (b.take k) pad3) ctr3 P4 np4 q4 (pad3.drop k) := by
 obtain ⟨m1, m2, m3, m4, m5⟩ := h.mid hlt hck ho hG
 have hbl := h.rb.1
 have hpl := h.cnt.pad.1
 have hT : Turn [x.d] wb (wb.setCell ⟨x.d, 7, none⟩ (.slice P4 np4 q4)) := (Turn.refl _ _).setCell (.inl (by simp)) _
 have hN : ∀ g ∈ [x.d], NoB wb g := fun g hg => by simp at hg; subst hg; exact m2.noB
 have r4 : Rd wb A4 n4 c4 (b.drop k) := m4 hR4 (fun ad had e => by
  obtain ⟨a1, e1, e2⟩ := hB4 ad had
  obtain ⟨a0, e3, e4⟩ := h.ab a1 e1
  have := hAb a0 e3
  have := (h.out.lt e).1
  omega)
 have rp4 : Rd wb P4 np4 q4 (pad3.drop k) := m4 hRp4 (fun ad had e => by
  obtain ⟨a1, e1, e2⟩ := hBp4 ad had
  exact h.po a1 e1 (by rw [← e2]; exact e))
 refine ⟨r4.turnB hT hN, fun ad had => ?_, m1.turn hT (fun g hg hm => (m1.notin (Blk.noRow m2.blk (by decide))) (by simp at hm; rw [← hm]; exact hg)), ?_, m2.put rp4 (fun ad had => ?_), fun ad had => ?_, fun ad had e => ?_, m3.trans hT (fun y hy => .inl (by simp at hy; simp [hy])), ?_⟩
 ·obtain ⟨a1, e1, e2⟩ := hB4 ad had
  obtain ⟨a0, e3, e4⟩ := h.ab a1 e1
  exact ⟨a0, e3, e2.trans e4⟩
 ·have := h.len
  rw [List.length_append, xorL_lenLe _ _ k (by rw [List.length_take]; omega) (by omega), List.length_drop]
  omega
 ·obtain ⟨a1, e1, e2⟩ := hBp4 ad had
  rw [e2]; exact h.cnt.ne a1 e1
 ·obtain ⟨a1, e1, e2⟩ := hBp4 ad had
  rw [e2]; exact h.pb a1 e1
 ·obtain ⟨a1, e1, e2⟩ := hBp4 ad had
  exact m5 a1 e1 (by rw [← e2]; exact e)
 ·rw [← h.tot, cnt1_part (encL x.ks x.R) x.wd ctr3 k b pad3 (by omega) (by omega)]
  have e : xorL (b.take k) (pad3.take k) = xorL (b.take k) pad3 := by
   have := xorL_take (b.take k) pad3
   rwa [List.length_take, Nat.min_eq_left (by omega)] at this
  rw [e, List.append_assoc]
end
set_option maxHeartbeats 4000000 in
theorem count_any_q (x : CX) (ctr : List UInt8) (P : Option Addr) (np q : Nat) (pad : List UInt8) (A : Option Addr) (n c : Nat) (l : List UInt8) (w : World) (h : CntAt w x ctr P np q pad) (hr : Rd w A n c l) (hne : ∀ ad, A = some ad → ad.block ≠ x.gc) (hn : n ≤ 100000) :
  Calls Tryz.prog 95 #[.pointer (some ⟨x.d, 0, none⟩), .slice A n c] w fun e w' => ∃ A' n' c' P' np' q', e = .returned (.slice A' n' c') ∧ Own w' w.heap.size (.slice A' n' c') (cnt1 (encL x.ks x.R) x.wd l pad ctr).1 ∧
   CntAt w' x (cnt1 (encL x.ks x.R) x.wd l pad ctr).2.2 P' np' q' (cnt1 (encL x.ks x.R) x.wd l pad ctr).2.1 ∧ (∀ ad, P' = some ad → (∃ ad0, P = some ad0 ∧ ad.block = ad0.block) ∨ w.heap.size ≤ ad.block) ∧ Turn [x.d, x.gc] w w' ∧ (∀ ad, P' = some ad → (Value.slice A' n' c').ownBlock ≠ some ad.block) := by
 obtain ⟨tot, htot⟩ : ∃ tot, cnt1 (encL x.ks x.R) x.wd l pad ctr = tot := ⟨_, rfl⟩
 rw [htot]
 have hA0 : ∀ ad, A = some ad → ad.block < w.heap.size := fun ad had => hr.lt ad had
 have hdg := h.dgc
 have hlt : x.d < w.heap.size ∧ x.gc < w.heap.size := ⟨h.blk.lt, h.ctr.lt⟩
 have hck := h.cip.lt
 have hnl : n = l.length := hr.1
 have hst : CI w x P A l tot w A n c l none 0 0 [] ctr P np q pad := ⟨hr, fun ad had => ⟨ad, had, rfl⟩, Own.nil _ _, by simp, h, fun ad had => .inl ⟨ad, had, rfl⟩, fun ad _ => by simp [Value.ownBlock], Turn.refl _ _, by rw [List.nil_append]; exact htot⟩
 have HN := Lib.hid (And.intro hdg (And.intro hlt (And.intro hnl (And.intro hne (And.intro hA0 (And.intro hst hck))))))
 clear h hr hne htot hA0 hdg hlt hnl hst hck
 go_enter Tryz.func95, Tryz.ntmps95
 go_wp2_with fail
 go_loopw [1, 5] (fun vb vo wr => ∃ (A1 : Option Addr) (n1 c1 : Nat) (b : List UInt8) (A2 : Option Addr) (n2 c2 : Nat) (ob : List UInt8) (ctr1 : List UInt8) (P1 : Option Addr) (np1 q1 : Nat) (pad1 : List UInt8),
  vb = .slice A1 n1 c1 ∧ vo = .slice A2 n2 c2 ∧ CI w x P A l tot wr A1 n1 c1 b A2 n2 c2 ob ctr1 P1 np1 q1 pad1) (fun vb _ _ => sliceLen_q vb)
 case atStart => exact ⟨A, n, c, l, none, 0, 0, [], ctr, P, np, q, pad, rfl, rfl, HN.out.2.2.2.2.2.1⟩
 case round =>
  obtain ⟨A1, n1, c1, b, A2, n2, c2, ob, ctr1, P1, np1, q1, pad1, rfl, rfl, hI⟩ := hrel
  have hb1 := hI.rb.1
  have hn1 : n1 ≤ 100000 := by have := HN.out.2.2.1; have := hI.len; omega
  have HX := Lib.hid hI
  clear hI
  by_cases h0 : n1 = 0
  ·subst h0
   have hb0 : b = [] := List.length_eq_zero_iff.1 hb1.symm
   have htot := HX.out.tot
   rw [hb0] at htot
   simp only [cnt1, List.append_nil] at htot
   have HT := Lib.hid htot
   clear htot hb0 hb1
   go_wp2_with fail
   go_ret
   refine ⟨A2, n2, c2, P1, np1, q1, rfl, ?_, ?_, HX.out.pb, HX.out.turn, HX.out.po⟩
   ·rw [← HT.out]; exact HX.out.out
   ·rw [← HT.out]; exact HX.out.cnt
  ·have hpos : 0 < n1 := Nat.pos_of_ne_zero h0
   have hposi : (n1 : Int) > 0 := by omega
   have hposd : decide ((n1 : Int) > 0) = true := decide_eq_true hposi
   have hcell7 := HX.out.cnt.cell7
   have HB := Lib.hid hb1
   clear hb1 h0
   go_upto_if 15 with fail
   go_cut [] from 7 to 59 (fun wx => ∃ (ctr3 : List UInt8) (P3 : Option Addr) (np3 q3 : Nat) (pad3 : List UInt8), CI w x P A l tot wx A1 n1 c1 b A2 n2 c2 ob ctr3 P3 np3 q3 pad3 ∧ 0 < pad3.length)
   case first =>
    by_cases hp : np1 = 0
    ·subst hp
     have hE1 := HX.out.cnt
     have hb9 : b ≠ [] := fun e => by have := HB.out; rw [e] at this; simp at this; omega
     have hz : pad1 = [] := List.length_eq_zero_iff.1 hE1.pad.1.symm
     have hel : (encL x.ks x.R ctr1).length = 16 := enc_ne _ _ _ hE1.ctr.1 hE1.cip.2.2.2.2.2.1
     have hf := cnt1_fill (encL x.ks x.R) x.wd b ctr1 hb9 (fun e => by rw [e] at hel; simp at hel)
     rw [← hz] at hf
     have HF := Lib.hid (And.intro hf hel)
     have HC := Lib.hid hE1
     clear hE1 hb9 hz hel hf
     go_wp2_with fail
     refine region_oldZ 12 (by kernel_rfl) (fun wd hHeld hSz => ?_)
     have HSz := Lib.hid hSz
     clear hSz
     have hOd := hHeld
     refine takeZ (z := 12) (by kernel_rfl) (i := 0) (v := ?_) rfl (by kernel_rfl) (by kernel_rfl) (by kernel_rfl) (fun _ _ _ h => h) (Or.inl ⟨by rfl, ?_⟩) hHeld ?_
     rotate_left
     focus (intro wq hSw; clear hSw; go_simp; try with_reducible rfl)
     try simp only [Act.put, sA, sB, sC]
     refine takeZ (z := 12) (by kernel_rfl) (i := 1) (v := ?_) rfl (by kernel_rfl) (by kernel_rfl) (by kernel_rfl) (fun _ _ _ h => h) (Or.inl ⟨by rfl, ?_⟩) hHeld ?_
     rotate_left
     focus (intro wq hSw; clear hSw; go_simp; try with_reducible rfl)
     try simp only [Act.put, sA, sB, sC]
     refine takeZ (z := 12) (by kernel_rfl) (i := 2) (v := ?_) rfl (by kernel_rfl) (by kernel_rfl) (by kernel_rfl) (fun _ _ _ h => h) (Or.inl ⟨by rfl, ?_⟩) hHeld ?_
     rotate_left
     focus (intro wq hSw; clear hSw; go_simp; try with_reducible rfl)
     try simp only [Act.put, sA, sB, sC]
     refine takeZ (z := 12) (by kernel_rfl) (i := 3) (v := ?_) rfl (by kernel_rfl) (by kernel_rfl) (by kernel_rfl) (fun _ _ _ h => h) (Or.inl ⟨by rfl, ?_⟩) hHeld ?_
     rotate_left
     focus (intro wq hSw; clear hSw; go_simp; try with_reducible rfl)
     try simp only [Act.put, sA, sB, sC]
     refine takeZ (z := 12) (by kernel_rfl) (i := 4) (v := ?_) rfl (by kernel_rfl) (by kernel_rfl) (by kernel_rfl) (fun _ _ _ h => h) (Or.inl ⟨by rfl, ?_⟩) hHeld ?_
     rotate_left
     focus (intro wq hSw; have q2 := (HC.out.below hSw).cell2; clear hSw; go_simp; try with_reducible rfl)
     try simp only [Act.put, sA, sB, sC]
     refine takeZ (z := 12) (by kernel_rfl) (i := 5) (v := ?_) rfl (by kernel_rfl) (by kernel_rfl) (by kernel_rfl) (fun _ _ _ h => h) (Or.inl ⟨by rfl, ?_⟩) hHeld ?_
     rotate_left
     focus (intro wq hSw; clear hSw; go_simp; try with_reducible rfl)
     try simp only [Act.put, sA, sB, sC]
     refine takeZ (z := 12) (by kernel_rfl) (i := 6) (v := ?_) rfl (by kernel_rfl) (by kernel_rfl) (by kernel_rfl) (fun _ _ _ h => h) (Or.inl ⟨by rfl, ?_⟩) hHeld ?_
     rotate_left
     focus (intro wq hSw; clear hSw; go_simp; try with_reducible rfl)
     try simp only [Act.put, sA, sB, sC]
     refine takeZ (z := 12) (by kernel_rfl) (i := 7) (v := ?_) rfl (by kernel_rfl) (by kernel_rfl) (by kernel_rfl) (fun _ _ _ h => h) (Or.inl ⟨by rfl, ?_⟩) hHeld ?_
     rotate_left
     focus (intro wq hSw; clear hSw; go_simp; try with_reducible rfl)
     try simp only [Act.put, sA, sB, sC]
     refine takeZ (z := 12) (by kernel_rfl) (i := 8) (v := ?_) rfl (by kernel_rfl) (by kernel_rfl) (by kernel_rfl) (fun _ _ _ h => h) (Or.inl ⟨by rfl, ?_⟩) hHeld ?_
     rotate_left
     focus (intro wq hSw; have q5 := (HC.out.below hSw).cell5; clear hSw; go_simp; try with_reducible rfl)
     try simp only [Act.put, sA, sB, sC]
     refine wpAnyT_ready (rs := [9]) (by kernel_rfl) (by simp) ?_
     refine consZ rfl (fun K hK => ?_) AllReadyT.nil
     go_simp
     refine (enc_any 0 x.c x.ks x.K x.R x.cp _ x.cc ctr1 wd (HC.out.below hOd).cip ((HC.out.below hOd).ctr.rd _ (HC.out.ok.cc16) (HC.out.ok.ccm))).mono ?_
     rintro e wa ⟨sb, rfl, hsb, hS, hBw⟩
     refine hK.out _ _ (hHeld.trans hBw) (fun hHeld => ?_)
     clear hK K
     try simp only [Act.put, sA, sB, sC]
     refine wpAnyT_ready (rs := [10]) (by kernel_rfl) (by simp) ?_
     refine consZ rfl (fun K hK => ?_) AllReadyT.nil
     go_simp
     refine hK.out _ _ hHeld (fun hHeld => ?_)
     clear hK K
     try simp only [Act.put, sA, sB, sC]
     refine wpAnyT_ready (rs := [11]) (by kernel_rfl) (by simp) ?_
     refine consZ rfl (fun K hK => ?_) AllReadyT.nil
     go_simp
     refine hK.out _ _ hHeld (fun hHeld => ?_)
     clear hK K
     try simp only [Act.put, sA, sB, sC]
     have hOa : Old wr wa := hOd.trans hBw
     have hCd := HC.out.below hOd
     have hCa := HC.out.below hOa
     have f7 := hCa.frozen 7
     have q7 := hCa.cell7
     refine wpAnyT_ready (rs := [12]) (by kernel_rfl) (by simp) ?_
     refine consZl rfl (fun K hK => ?_) AllReadyT.nil
     go_simp
     refine hK.out _ _ ?_
     clear hK K
     try simp only [Act.put, sA, sB, sC]
     refine wpAnyT_done (by kernel_rfl) ?_ _
     refine NoPanic.normal ?_
     try simp only [Exit.then]
     obtain ⟨W1, hW⟩ : ∃ W, wa.setCell ⟨x.d, 7, none⟩ (.slice (some ⟨sb, 0, none⟩) 16 16) = W := ⟨_, rfl⟩
     have hsb2 : x.gc < sb := Nat.lt_of_lt_of_le hCd.ctr.lt hsb
     have hCp := hCa.put (A := some ⟨sb, 0, none⟩) (n := 16) (c := 16) hS.rd (fun ad had => by cases had; show sb ≠ x.gc; omega)
     rw [hW] at hCp
     have hTd : Turn [x.d] wr W1 := by
      rw [← hW]
      exact (Turn.of_below _ hOa).setCell (.inl (by simp)) _
     have hrs : wr.heap.size ≤ sb := by have := HSz.out; omega
     have hNd := HX.out.cnt.noB
     have hob := HX.out.out.turn hTd (fun g hg hm => (HX.out.out.notin (Blk.noRow HX.out.cnt.blk (by decide))) (by simp at hm; rw [← hm]; exact hg))
     have hrb := HX.out.rb.turnB hTd (fun g hg => by simp at hg; subst hg; exact hNd)
     have HP := Lib.hid (And.intro hCp (And.intro hTd (And.intro hrs (And.intro hob hrb))))
     rw [hW]
     clear hW hCp hTd hsb hsb2 hS hBw hCa hCd hOa f7 q7 hHeld hOd hrs hNd hob hrb
     go_wp2_with fail
     refine HP.out.1.step.mono ?_
     rintro e w3 ⟨rfl, hC3, hT3⟩
     have H3 := Lib.hid (And.intro hC3 hT3)
     clear hC3 hT3
     go_wp2_with fail
     go_meet
     case rel =>
      refine ⟨_, _, _, _, _, ⟨HP.out.2.2.2.2.turn H3.out.2 ?_, HX.out.ab, HP.out.2.2.2.1.turn H3.out.2 ?_, HX.out.len, H3.out.1, fun ad had => ?_, fun ad had => ?_, ?_, ?_⟩, by rw [HF.out.2]; decide⟩
      ·intro ad had hm
       obtain ⟨ad0, h1, h2⟩ := HX.out.ab ad had
       simp at hm
       exact HN.out.2.2.2.1 ad0 h1 (by rw [← h2, hm])
      ·intro g hg hm
       have := (HX.out.out.lt hg).1
       have h4 := HN.out.2.1.2
       simp at hm
       omega
      ·cases had
       exact .inr (Nat.le_trans HX.out.turn.size HP.out.2.2.1)
      ·cases had
       intro e
       have := (HX.out.out.lt e).2
       have := HP.out.2.2.1
       simp only at *
       omega
      ·exact (HX.out.turn.trans HP.out.2.1 (fun y hy => .inl (by simp at hy; simp [hy]))).trans H3.out.2 (fun y hy => .inl (by simp at hy; simp [hy]))
      ·rw [← HF.out.1]
       exact HX.out.tot
    ·have hpi : ¬ (np1 : Int) = 0 := by omega
     have hpd : ((np1 : Int) == 0) = false := by simp; exact hp
     go_wp2_with fail
     go_meet
     case rel => exact ⟨_, _, _, _, _, HX.out, by have := HX.out.cnt.pad.1; omega⟩
   case rest =>
    obtain ⟨ctr3, P3, np3, q3, pad3, hI3, hp3⟩ := hcut
    obtain ⟨k, hk⟩ : ∃ k, min n1 np3 = k := ⟨_, rfl⟩
    have hpl := hI3.cnt.pad.1
    have hnl3 := hI3.rb.1
    have hk0 : 0 < k := by omega
    have hk1 : k ≤ n1 := by omega
    have hk2 : k ≤ np3 := by omega
    have hk5 : k ≤ 100000 := by omega
    have hmin : (Value.int .i64 (min (n1 : Int) (np3 : Int))) = .int .i64 (k : Int) := by congr 1; omega
    have c7 := hI3.cnt.cell7
    obtain ⟨A4, n4, c4, hn4, hS4, hR4, hB4⟩ := hI3.rb.cut_ex2 hk1
    obtain ⟨P4, np4, q4, hnp4, hSp4, hRp4, hBp4⟩ := hI3.cnt.pad.cut_ex2 hk2
    have hpart := cnt1_part (encL x.ks x.R) x.wd ctr3 k b pad3 (by omega) (by omega)
    have hsl := slice_to A1 n1 c1 k hI3.rb.spot (by have := hI3.rb.2.1; omega)
    have hT0 := hI3.turn.size
    have hd3 : x.d < w.heap.size := HN.out.2.1.1
    have HY := Lib.hid (And.intro hI3 (And.intro hpart (And.intro hR4 (And.intro hB4 (And.intro hRp4 (And.intro hBp4 (And.intro hpl (And.intro hnl3 hk))))))))
    have HS := Lib.hid (And.intro hS4 (And.intro hSp4 hsl))
    clear hI3 hpart hR4 hB4 hRp4 hBp4 hpl hnl3 hS4 hSp4 hsl HX hcell7
    by_cases hlt : np3 < n1
    ·obtain rfl : k = np3 := by have := HY.out.2.2.2.2.2.2.2.2; omega
     have hlti : (k : Int) < (n1 : Int) := by omega
     clear hmin
     go_wp2_with fail
     refine region_belowB w.heap.size hT0 (by kernel_rfl) (fun wd hOd hHeld => ?_)
     refine tkS 0 hHeld ?_
     refine tkS 1 hHeld ?_
     refine tkS 2 hHeld ?_
     refine tkS 3 hHeld ?_ (hy := by intro wq hSw; have hRun := HS.out.2.2 wq; clear hSw; go_simp; try with_reducible rfl)
     refine tkS 4 hHeld ?_
     refine tkS 5 hHeld ?_
     refine tkS 6 hHeld ?_
     refine tkS 7 hHeld ?_ (hy := by intro wq hSw; have q7 := (hSw.cell (p := ⟨x.d, 7, none⟩) hd3).trans c7; clear hSw; go_simp; try with_reducible rfl)
     refine rdL 8 (fun K hK => ?_)
     go_simp
     refine (xored_any A1 P3 k c1 k q3 (b.take k) pad3 wd ((HY.out.1.rb.below hOd).front hk1) (HY.out.1.cnt.pad.below hOd) (Nat.le_refl _) hk5).mono ?_
     rintro e wa ⟨rfl, hOx, hBx⟩
     refine hK.out _ _ (hHeld.trans (hBx.mono (Nat.le_trans hT0 hOd.size))) (fun hHeld => ?_)
     clear hK K
     try simp only [Act.put, sA, sB, sC]
     refine rdL 9 (fun K hK => ?_)
     refine step_app2 (.tmp 38) (.tmp 46) w.heap.size (.slice A2 n2 c2) ob ((HY.out.1.out.below hOd).below hBx) (Nat.le_trans hT0 (Nat.le_trans hOd.size hBx.size)) _ k k _ hOx.rd (by rw [xorL_lenLe _ _ k (by rw [List.length_take]; have := HY.out.2.2.2.2.2.2.2.1; omega) (by have := HY.out.2.2.2.2.2.2.1; omega)]; have := HY.out.1.len; have := HN.out.2.2.1; omega) rfl rfl rfl rfl (fun A5 n5 c5 wb hn5 hG => ?_)
     refine hK.out _ _ (hHeld.trans hG.below) (fun hHeld => ?_)
     clear hK K
     try simp only [Act.put, sA, sB, sC]
     refine rdL 10 (fun K hK => ?_)
     go_simp
     refine hK.out _ _ hHeld (fun hHeld => ?_)
     clear hK K
     try simp only [Act.put, sA, sB, sC]
     refine wpAnyH_done (by kernel_rfl) ?_ _
     refine NoPanic.normal ?_
     have hnx := HY.out.1.next HN.out.2.1 HN.out.2.2.2.2.2.2 HN.out.2.2.2.2.1 (hOd.trans hBx) hk1 (Nat.le_refl _) hG HY.out.2.2.1 HY.out.2.2.2.1 HY.out.2.2.2.2.1 HY.out.2.2.2.2.2.1
     obtain ⟨_, m2, _⟩ := HY.out.1.mid HN.out.2.1 HN.out.2.2.2.2.2.2 (hOd.trans hBx) hG
     have y7 := m2.cell7
     have f7 := m2.frozen 7
     simp only [hn4, hnp4, Nat.sub_self] at hnx
     have HZ := Lib.hid hnx.drew
     have hs1 := HS.out.1
     have hs2 := HS.out.2.1
     clear hnx m2 hOd hHeld hOx hBx hG
     simp only [Exit.then]
     go_at_K
     go_wp2_with fail
     go_still_tail 13, (by kernel_rfl)
     go_wp2_with fail
     go_roundw
     case rel => exact ⟨_, _, _, _, _, _, _, _, _, _, _, _, _, rfl, rfl, HZ.out⟩
     case measure => simp [sliceLen_q]; omega
    ·obtain rfl : k = n1 := by have := HY.out.2.2.2.2.2.2.2.2; omega
     have hlti : ¬ (np3 : Int) < (k : Int) := by omega
     clear hmin
     go_wp2_with fail
     refine region_belowB w.heap.size hT0 (by kernel_rfl) (fun wd hOd hHeld => ?_)
     refine tkS 0 hHeld ?_
     refine tkS 1 hHeld ?_
     refine tkS 2 hHeld ?_
     refine tkS 3 hHeld ?_ (hy := by intro wq hSw; have hRun := HS.out.2.2 wq; clear hSw; go_simp; try with_reducible rfl)
     refine tkS 4 hHeld ?_
     refine tkS 5 hHeld ?_
     refine tkS 6 hHeld ?_
     refine tkS 7 hHeld ?_ (hy := by intro wq hSw; have q7 := (hSw.cell (p := ⟨x.d, 7, none⟩) hd3).trans c7; clear hSw; go_simp; try with_reducible rfl)
     refine rdL 8 (fun K hK => ?_)
     go_simp
     refine (xored_any A1 P3 k c1 np3 q3 (b.take k) pad3 wd ((HY.out.1.rb.below hOd).front hk1) (HY.out.1.cnt.pad.below hOd) hk2 hk5).mono ?_
     rintro e wa ⟨rfl, hOx, hBx⟩
     refine hK.out _ _ (hHeld.trans (hBx.mono (Nat.le_trans hT0 hOd.size))) (fun hHeld => ?_)
     clear hK K
     try simp only [Act.put, sA, sB, sC]
     refine rdL 9 (fun K hK => ?_)
     refine step_app2 (.tmp 38) (.tmp 46) w.heap.size (.slice A2 n2 c2) ob ((HY.out.1.out.below hOd).below hBx) (Nat.le_trans hT0 (Nat.le_trans hOd.size hBx.size)) _ k k _ hOx.rd (by rw [xorL_lenLe _ _ k (by rw [List.length_take]; have := HY.out.2.2.2.2.2.2.2.1; omega) (by have := HY.out.2.2.2.2.2.2.1; omega)]; have := HY.out.1.len; have := HN.out.2.2.1; omega) rfl rfl rfl rfl (fun A5 n5 c5 wb hn5 hG => ?_)
     refine hK.out _ _ (hHeld.trans hG.below) (fun hHeld => ?_)
     clear hK K
     try simp only [Act.put, sA, sB, sC]
     refine rdL 10 (fun K hK => ?_)
     go_simp
     refine hK.out _ _ hHeld (fun hHeld => ?_)
     clear hK K
     try simp only [Act.put, sA, sB, sC]
     refine wpAnyH_done (by kernel_rfl) ?_ _
     refine NoPanic.normal ?_
     have hnx := HY.out.1.next HN.out.2.1 HN.out.2.2.2.2.2.2 HN.out.2.2.2.2.1 (hOd.trans hBx) (Nat.le_refl _) hk2 hG HY.out.2.2.1 HY.out.2.2.2.1 HY.out.2.2.2.2.1 HY.out.2.2.2.2.2.1
     obtain ⟨_, m2, _⟩ := HY.out.1.mid HN.out.2.1 HN.out.2.2.2.2.2.2 (hOd.trans hBx) hG
     have y7 := m2.cell7
     have f7 := m2.frozen 7
     simp only [hn4, hnp4, Nat.sub_self] at hnx
     have HZ := Lib.hid hnx.drew
     have hs1 := HS.out.1
     have hs2 := HS.out.2.1
     clear hnx m2 hOd hHeld hOx hBx hG
     simp only [Exit.then]
     go_at_K
     go_wp2_with fail
     go_still_tail 13, (by kernel_rfl)
     go_wp2_with fail
     go_roundw
     case rel => exact ⟨_, _, _, _, _, _, _, _, _, _, _, _, _, rfl, rfl, HZ.out⟩
     case measure => simp [sliceLen_q]; omega
def blkF (mode : Nat) (enc : Bool) (E D : List UInt8 → List UInt8) (iv b : List UInt8) : List UInt8 × List UInt8 :=
 if mode = 1 then (if enc then E b else D b, iv) else if enc then (E (xorL b iv), E (xorL b iv)) else (xorL (D b) iv, b)
def stB (mode : Nat) (enc : Bool) (c : Nat) (last wait : Value) (over : Bool) : Array Value := #[.int .i64 (mode : Int), .bool enc, .pointer (some ⟨c, 0, none⟩), last, wait, .slice none 0 0, .int .i64 0, .slice none 0 0, .slice none 0 0, .slice none 0 0, .slice none 0 0, .bool over]
structure BX where
 d : Nat
 c : Nat
 K : Nat
 R : Nat
 cp : Nat
 mode : Nat
 enc : Bool
 ks : List UInt8
def BX.E (x : BX) : List UInt8 → List UInt8 := encL x.ks x.R
def BX.D (x : BX) : List UInt8 → List UInt8 := decL x.ks x.R
structure BkC (w : World) (x : BX) (W : Option Addr) (m cw : Nat) (L : Option Addr) (nl cl : Nat) (last : List UInt8) : Prop where
 blk : Blk w x.d 139 (stB x.mode x.enc x.c (.slice L nl cl) (.slice W m cw) false)
 cip : Cip w 0 x.c x.ks x.K x.R x.cp
 last : Rd w L nl cl last
 l16 : x.mode ≠ 1 → nl = 16
section
variable {w w' : World} {x : BX} {W L : Option Addr} {m cw nl cl : Nat} {last : List UInt8}
theorem BkC.noB (h : BkC w x W m cw L nl cl last) : NoB w x.d := NoB.of h.blk rfl
theorem BkC.below (h : BkC w x W m cw L nl cl last) (hb : Old w w') : BkC w' x W m cw L nl cl last := ⟨h.blk.below hb, h.cip.below hb, h.last.below hb, h.l16⟩
theorem BkC.c0 (h : BkC w x W m cw L nl cl last) : w.cell? ⟨x.d, 0, none⟩ = some (.int .i64 (x.mode : Int)) := h.blk.cell 0
theorem BkC.c1 (h : BkC w x W m cw L nl cl last) : w.cell? ⟨x.d, 1, none⟩ = some (.bool x.enc) := h.blk.cell 1
theorem BkC.c2 (h : BkC w x W m cw L nl cl last) : w.cell? ⟨x.d, 2, none⟩ = some (.pointer (some ⟨x.c, 0, none⟩)) := h.blk.cell 2
theorem BkC.c3 (h : BkC w x W m cw L nl cl last) : w.cell? ⟨x.d, 3, none⟩ = some (.slice L nl cl) := h.blk.cell 3
theorem BkC.c4 (h : BkC w x W m cw L nl cl last) : w.cell? ⟨x.d, 4, none⟩ = some (.slice W m cw) := h.blk.cell 4
theorem BkC.frozen (h : BkC w x W m cw L nl cl last) (i : Nat) : w.frozen? ⟨x.d, i, none⟩ = false := h.blk.frozen i
theorem BkC.put3 (h : BkC w x W m cw L nl cl last) {A : Option Addr} {n c : Nat} {l : List UInt8} (hr : Rd w A n c l) (h16 : n = 16) : BkC (w.setCell ⟨x.d, 3, none⟩ (.slice A n c)) x W m cw A n c l := by
 have ht : Turn [x.d] w (w.setCell ⟨x.d, 3, none⟩ (.slice A n c)) := (Turn.refl _ _).setCell (.inl (by simp)) _
 have hN := h.noB
 refine ⟨?_, h.cip.turn ht (by simp; exact (h.cip.nd h.blk hN).1) (by simp; exact (h.cip.nd h.blk hN).2), hr.turnB ht (fun g hg => by simp at hg; subst hg; exact hN), fun _ => h16⟩
 exact h.blk.set_ 3 (.slice A n c)
theorem BkC.put4 (h : BkC w x W m cw L nl cl last) (A : Option Addr) (n c : Nat) : BkC (w.setCell ⟨x.d, 4, none⟩ (.slice A n c)) x A n c L nl cl last := by
 have ht : Turn [x.d] w (w.setCell ⟨x.d, 4, none⟩ (.slice A n c)) := (Turn.refl _ _).setCell (.inl (by simp)) _
 have hN := h.noB
 refine ⟨?_, h.cip.turn ht (by simp; exact (h.cip.nd h.blk hN).1) (by simp; exact (h.cip.nd h.blk hN).2), h.last.turnB ht (fun g hg => by simp at hg; subst hg; exact hN), h.l16⟩
 exact h.blk.set_ 4 (.slice A n c)
theorem turn_put {w : World} {d i : Nat} {v : Value} : Turn [d] w (w.setCell ⟨d, i, none⟩ v) := (Turn.refl _ _).setCell (.inl (by simp)) _
end
structure BkRes (w : World) (x : BX) (W : Option Addr) (m cw : Nat) (L : Option Addr) (nl cl : Nat) (last : List UInt8) (A : Option Addr) (cb : Nat) (b : List UInt8) (w' : World) (A' : Option Addr) (c' : Nat) : Prop where
 out : Rd w' A' 16 c' (blkF x.mode x.enc x.E x.D last b).1
 fresh : ∀ ad, A' = some ad → w.heap.size ≤ ad.block
 next : ∃ L' nl' cl', BkC w' x W m cw L' nl' cl' (blkF x.mode x.enc x.E x.D last b).2 ∧ ((L' = L ∧ nl' = nl) ∨ (∀ ad, L' = some ad → w.heap.size ≤ ad.block) ∨ (L' = A ∧ nl' = 16))
 turn : Turn [x.d] w w'
set_option maxHeartbeats 2000000 in
theorem block_any_q (x : BX) (W : Option Addr) (m cw : Nat) (L : Option Addr) (nl cl : Nat) (last : List UInt8) (A : Option Addr) (cb : Nat) (b : List UInt8) (w : World) (h : BkC w x W m cw L nl cl last) (hr : Rd w A 16 cb b) :
  Calls Tryz.prog 112 #[.pointer (some ⟨x.d, 0, none⟩), .slice A 16 cb] w fun e w' => ∃ A' c', e = .returned (.slice A' 16 c') ∧ BkRes w x W m cw L nl cl last A cb b w' A' c' := by
 have y0 := h.c0
 have y1 := h.c1
 have y2 := h.c2
 have HH := Lib.hid (And.intro h hr)
 clear h hr
 by_cases hm : x.mode = 1
 ·rw [hm] at y0
  cases he : x.enc with
  | true =>
   rw [he] at y1
   have hE := fun w' (ho : Old w w') => enc_any 0 x.c x.ks x.K x.R x.cp A cb b w' (HH.out.1.cip.below ho) (HH.out.2.below ho)
   have HE := Lib.hid (And.intro hE (And.intro hm he))
   clear hE hm he
   go_enter Tryz.func112, Tryz.ntmps112
   go_wp2_with fail
   refine (HE.out.1 _ (Old.refl _)).mono ?_
   rintro e w1 ⟨sb, rfl, hsb, hS, hB⟩
   have H1 := Lib.hid (And.intro hsb (And.intro hS hB))
   clear hsb hS hB
   go_wp2_with fail
   go_ret
   refine ⟨_, _, rfl, ?_, fun ad had => by cases had; exact H1.out.1, ⟨L, nl, cl, ?_, .inl ⟨rfl, rfl⟩⟩, Turn.of_below _ H1.out.2.2⟩
   ·unfold blkF; rw [if_pos HE.out.2.1, if_pos HE.out.2.2]; exact H1.out.2.1.rd
   ·unfold blkF; rw [if_pos HE.out.2.1]; exact HH.out.1.below H1.out.2.2
  | false =>
   rw [he] at y1
   have hE := fun w' (ho : Old w w') => dec_any 0 x.c x.ks x.K x.R x.cp A cb b w' (HH.out.1.cip.below ho) (HH.out.2.below ho)
   have HE := Lib.hid (And.intro hE (And.intro hm he))
   clear hE hm he
   go_enter Tryz.func112, Tryz.ntmps112
   go_wp2_with fail
   refine (HE.out.1 _ (Old.refl _)).mono ?_
   rintro e w1 ⟨sb, rfl, hsb, hS, hB⟩
   have H1 := Lib.hid (And.intro hsb (And.intro hS hB))
   clear hsb hS hB
   go_wp2_with fail
   go_ret
   refine ⟨_, _, rfl, ?_, fun ad had => by cases had; exact H1.out.1, ⟨L, nl, cl, ?_, .inl ⟨rfl, rfl⟩⟩, Turn.of_below _ H1.out.2.2⟩
   ·unfold blkF; rw [if_pos HE.out.2.1, if_neg (by rw [HE.out.2.2]; decide)]; exact H1.out.2.1.rd
   ·unfold blkF; rw [if_pos HE.out.2.1]; exact HH.out.1.below H1.out.2.2
 ·have hmd : ((x.mode : Int) == 1) = false := by simp; omega
  have hmi : ¬ (x.mode : Int) = 1 := by omega
  have h16 := HH.out.1.l16 hm
  subst h16
  have y3 := HH.out.1.c3
  cases he : x.enc with
  | true =>
   rw [he] at y1
   have HE := Lib.hid (And.intro hm he)
   clear hm he
   go_enter Tryz.func112, Tryz.ntmps112
   go_wp2_with fail
   refine region_oldZ 14 (by kernel_rfl) (fun wd hHeld hSz => ?_)
   have HSz := Lib.hid hSz
   clear hSz
   have hOd := hHeld
   refine takeZ (z := 14) (by kernel_rfl) (i := 0) (v := ?_) rfl (by kernel_rfl) (by kernel_rfl) (by kernel_rfl) (fun _ _ _ h => h) (Or.inl ⟨by rfl, ?_⟩) hHeld ?_
   rotate_left
   focus (intro wq hSw; clear hSw; go_simp; try with_reducible rfl)
   try simp only [Act.put, sA, sB, sC]
   refine takeZ (z := 14) (by kernel_rfl) (i := 1) (v := ?_) rfl (by kernel_rfl) (by kernel_rfl) (by kernel_rfl) (fun _ _ _ h => h) (Or.inl ⟨by rfl, ?_⟩) hHeld ?_
   rotate_left
   focus (intro wq hSw; clear hSw; go_simp; try with_reducible rfl)
   try simp only [Act.put, sA, sB, sC]
   refine takeZ (z := 14) (by kernel_rfl) (i := 2) (v := ?_) rfl (by kernel_rfl) (by kernel_rfl) (by kernel_rfl) (fun _ _ _ h => h) (Or.inl ⟨by rfl, ?_⟩) hHeld ?_
   rotate_left
   focus (intro wq hSw; clear hSw; go_simp; try with_reducible rfl)
   try simp only [Act.put, sA, sB, sC]
   refine takeZ (z := 14) (by kernel_rfl) (i := 3) (v := ?_) rfl (by kernel_rfl) (by kernel_rfl) (by kernel_rfl) (fun _ _ _ h => h) (Or.inl ⟨by rfl, ?_⟩) hHeld ?_
   rotate_left
   focus (intro wq hSw; clear hSw; go_simp; try with_reducible rfl)
   try simp only [Act.put, sA, sB, sC]
   refine takeZ (z := 14) (by kernel_rfl) (i := 4) (v := ?_) rfl (by kernel_rfl) (by kernel_rfl) (by kernel_rfl) (fun _ _ _ h => h) (Or.inl ⟨by rfl, ?_⟩) hHeld ?_
   rotate_left
   focus (intro wq hSw; have q2 := (HH.out.1.below hSw).c2; clear hSw; go_simp; try with_reducible rfl)
   try simp only [Act.put, sA, sB, sC]
   refine takeZ (z := 14) (by kernel_rfl) (i := 5) (v := ?_) rfl (by kernel_rfl) (by kernel_rfl) (by kernel_rfl) (fun _ _ _ h => h) (Or.inl ⟨by rfl, ?_⟩) hHeld ?_
   rotate_left
   focus (intro wq hSw; clear hSw; go_simp; try with_reducible rfl)
   try simp only [Act.put, sA, sB, sC]
   refine takeZ (z := 14) (by kernel_rfl) (i := 6) (v := ?_) rfl (by kernel_rfl) (by kernel_rfl) (by kernel_rfl) (fun _ _ _ h => h) (Or.inl ⟨by rfl, ?_⟩) hHeld ?_
   rotate_left
   focus (intro wq hSw; clear hSw; go_simp; try with_reducible rfl)
   try simp only [Act.put, sA, sB, sC]
   refine takeZ (z := 14) (by kernel_rfl) (i := 7) (v := ?_) rfl (by kernel_rfl) (by kernel_rfl) (by kernel_rfl) (fun _ _ _ h => h) (Or.inl ⟨by rfl, ?_⟩) hHeld ?_
   rotate_left
   focus (intro wq hSw; clear hSw; go_simp; try with_reducible rfl)
   try simp only [Act.put, sA, sB, sC]
   refine takeZ (z := 14) (by kernel_rfl) (i := 8) (v := ?_) rfl (by kernel_rfl) (by kernel_rfl) (by kernel_rfl) (fun _ _ _ h => h) (Or.inl ⟨by rfl, ?_⟩) hHeld ?_
   rotate_left
   focus (intro wq hSw; clear hSw; go_simp; try with_reducible rfl)
   try simp only [Act.put, sA, sB, sC]
   refine takeZ (z := 14) (by kernel_rfl) (i := 9) (v := ?_) rfl (by kernel_rfl) (by kernel_rfl) (by kernel_rfl) (fun _ _ _ h => h) (Or.inl ⟨by rfl, ?_⟩) hHeld ?_
   rotate_left
   focus (intro wq hSw; have q3 := (HH.out.1.below hSw).c3; clear hSw; go_simp; try with_reducible rfl)
   try simp only [Act.put, sA, sB, sC]
   refine wpAnyT_ready (rs := [10]) (by kernel_rfl) (by simp) ?_
   refine consZ rfl (fun K hK => ?_) AllReadyT.nil
   go_simp
   refine (xored_any A L 16 cb 16 cl b last wd (HH.out.2.below hOd) (HH.out.1.last.below hOd) (Nat.le_refl _) (by omega)).mono ?_
   rintro e wx ⟨rfl, hOx, hBx⟩
   refine hK.out _ _ (hHeld.trans hBx) (fun hHeld => ?_)
   clear hK K
   try simp only [Act.put, sA, sB, sC]
   refine wpAnyT_ready (rs := [11]) (by kernel_rfl) (by simp) ?_
   refine consZ rfl (fun K hK => ?_) AllReadyT.nil
   go_simp
   refine (enc_any 0 x.c x.ks x.K x.R x.cp _ _ _ wx (HH.out.1.cip.below (hOd.trans hBx)) hOx.rd).mono ?_
   rintro e wa ⟨sb, rfl, hsb, hS, hBw⟩
   refine hK.out _ _ (hHeld.trans hBw) (fun hHeld => ?_)
   clear hK K
   try simp only [Act.put, sA, sB, sC]
   refine wpAnyT_ready (rs := [12]) (by kernel_rfl) (by simp) ?_
   refine consZ rfl (fun K hK => ?_) AllReadyT.nil
   go_simp
   refine hK.out _ _ hHeld (fun hHeld => ?_)
   clear hK K
   try simp only [Act.put, sA, sB, sC]
   refine wpAnyT_ready (rs := [13]) (by kernel_rfl) (by simp) ?_
   refine consZ rfl (fun K hK => ?_) AllReadyT.nil
   go_simp
   refine hK.out _ _ hHeld (fun hHeld => ?_)
   clear hK K
   try simp only [Act.put, sA, sB, sC]
   have f3 := (HH.out.1.below ((hOd.trans hBx).trans hBw)).frozen 3
   have q3 := (HH.out.1.below ((hOd.trans hBx).trans hBw)).c3
   refine wpAnyT_ready (rs := [14]) (by kernel_rfl) (by simp) ?_
   refine consZl rfl (fun K hK => ?_) AllReadyT.nil
   go_simp
   refine hK.out _ _ ?_
   clear hK K
   try simp only [Act.put, sA, sB, sC]
   refine wpAnyT_done (by kernel_rfl) ?_ _
   refine NoPanic.normal ?_
   try simp only [Exit.then]
   have hOa : Old w wa := (hOd.trans hBx).trans hBw
   obtain ⟨W1, hW⟩ : ∃ W, wa.setCell ⟨x.d, 3, none⟩ (.slice (some ⟨sb, 0, none⟩) 16 16) = W := ⟨_, rfl⟩
   have hP := (HH.out.1.below hOa).put3 (A := some ⟨sb, 0, none⟩) (n := 16) (c := 16) hS.rd rfl
   have hT : Turn [x.d] w W1 := by rw [← hW]; exact (Turn.of_below _ hOa).trans turn_put (fun y hy => .inl hy)
   rw [hW] at hP
   rw [hW]
   have z3 := hP.c3
   have hs2 : w.heap.size ≤ sb := Nat.le_trans (Nat.le_trans hOd.size hBx.size) hsb
   have HZ := Lib.hid (And.intro hP (And.intro hT hs2))
   clear hP hT hW hsb hS hBw hBx hOx hOd hOa f3 q3 hs2
   go_wp2_with fail
   go_ret
   refine ⟨_, _, rfl, ?_, fun ad had => by cases had; exact HZ.out.2.2, ⟨some ⟨sb, 0, none⟩, 16, 16, ?_, .inr (.inl (fun ad had => by cases had; exact HZ.out.2.2))⟩, HZ.out.2.1⟩
   ·unfold blkF; rw [if_neg HE.out.1, if_pos HE.out.2]; exact HZ.out.1.last
   ·unfold blkF; rw [if_neg HE.out.1, if_pos HE.out.2]; exact HZ.out.1
  | false =>
   rw [he] at y1
   have HE := Lib.hid (And.intro hm he)
   clear hm he
   go_enter Tryz.func112, Tryz.ntmps112
   go_wp2_with fail
   refine region_old (by kernel_rfl) (fun wd hHeld hSz => ?_)
   have HSz := Lib.hid hSz
   clear hSz
   have hOd := hHeld
   refine tkS 0 hHeld ?_
   refine tkS 1 hHeld ?_
   refine tkS 2 hHeld ?_
   refine tkS 3 hHeld ?_ (hy := by intro wq hSw; have q2 := (HH.out.1.below hSw).c2; clear hSw; go_simp; try with_reducible rfl)
   refine tkS 4 hHeld ?_
   refine tkS 6 hHeld ?_
   refine tkS 7 hHeld ?_
   refine tkS 8 hHeld ?_
   refine tkS 9 hHeld ?_ (hy := by intro wq hSw; have q3 := (HH.out.1.below hSw).c3; clear hSw; go_simp; try with_reducible rfl)
   refine rdL 5 (fun K hK => ?_)
   go_simp
   refine (dec_any 0 x.c x.ks x.K x.R x.cp A cb b wd (HH.out.1.cip.below hOd) (HH.out.2.below hOd)).mono ?_
   rintro e wa ⟨sb, rfl, hsb, hS, hBw⟩
   refine hK.out _ _ (hHeld.trans hBw) (fun hHeld => ?_)
   clear hK K
   try simp only [Act.put, sA, sB, sC]
   refine rdL 10 (fun K hK => ?_)
   go_simp
   refine (xored_any _ L 16 16 16 cl _ last wa hS.rd (HH.out.1.last.below (hOd.trans hBw)) (Nat.le_refl _) (by omega)).mono ?_
   rintro e wb ⟨rfl, hOx, hBx⟩
   refine hK.out _ _ (hHeld.trans hBx) (fun hHeld => ?_)
   clear hK K
   try simp only [Act.put, sA, sB, sC]
   refine rdL 11 (fun K hK => ?_)
   go_simp
   refine hK.out _ _ hHeld (fun hHeld => ?_)
   clear hK K
   try simp only [Act.put, sA, sB, sC]
   refine wpAnyH_done (by kernel_rfl) ?_ _
   refine NoPanic.normal ?_
   have hOa : Old w wb := (hOd.trans hBw).trans hBx
   have hP := HH.out.1.below hOa
   have z3 := hP.c3
   have f3 := hP.frozen 3
   have hs2 : w.heap.size ≤ wa.heap.size := Nat.le_trans hOd.size hBw.size
   have HZ := Lib.hid (And.intro hP (And.intro hOa (And.intro hs2 hOx)))
   clear hP hOa hsb hS hBw hBx hOx hOd hs2 hHeld
   simp only [Exit.then]
   go_at_K
   go_wp2_with fail
   go_ret
   have hN := HZ.out.1.noB
   have hO2 := HZ.out.2.2.2.rd.turnB (turn_put (d := x.d) (i := 3) (v := .slice A 16 cb)) (fun g hg => by simp at hg; subst hg; exact hN)
   refine ⟨_, _, rfl, ?_, ?_, ⟨A, 16, cb, ?_, .inr (.inr ⟨rfl, rfl⟩)⟩, (Turn.of_below _ HZ.out.2.1).trans turn_put (fun y hy => .inl hy)⟩
   ·unfold blkF; rw [if_neg HE.out.1, if_neg (by rw [HE.out.2]; decide)]; exact hO2
   ·intro ad had
    cases had
    exact HZ.out.2.2.1
   ·unfold blkF; rw [if_neg HE.out.1, if_neg (by rw [HE.out.2]; decide)]; exact HZ.out.1.put3 (HH.out.2.below HZ.out.2.1) rfl
end Go.Proofs.YtgjnmpjimhbfgaaGreatDoor
