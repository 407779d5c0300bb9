/-
  Modes: a stream made: begin, New.
-/
import Derived.Test.YtgjnmpjimhbfgaaGreatDoorZzMo11
import Derived.Test.YtgjnmpjimhbfgaaGreatDoorAesL
namespace Go.Proofs.YtgjnmpjimhbfgaaGreatDoor
set_option maxRecDepth 100000
open Go.RowKit
def ltN (x : UInt8) (n : Int) : Bool := decide ((x.toNat : Int) < n)
theorem lssI_B (t : TypeId) (x : UInt8) (n : Int) : binOp .lss t (B x) (.int .u8 n) = pure (.bool (ltN x n)) := by
 rw [show B x = .int .u8 (x.toNat : Int) from rfl]
 exact binOp_lss t .u8 _ _
attribute [local go_sem] lssI_B
structure StmS where
 mode : Nat
 enc : Bool
 ks : List UInt8
 R : Nat
 p : List UInt8
def StmS.E (s : StmS) : List UInt8 → List UInt8 := encL s.ks s.R
def StmS.D (s : StmS) : List UInt8 → List UInt8 := decL s.ks s.R
def StmS.keep (s : StmS) : Nat := if s.mode = 3 ∧ s.enc = false then 1 else 0
def StmS.nb (s : StmS) (n : Nat) : Nat := (n - s.keep) / 16
def StmS.j (s : StmS) : List UInt8 := gcmJ s.E s.p
def StmS.c0 (s : StmS) : List UInt8 := if s.mode = 4 then s.p.drop 1 else stepL 32 s.j
def StmS.wd (s : StmS) : Nat := if s.mode = 4 then (s.p.getD 0 0).toNat else 32
def StmS.data (s : StmS) : List UInt8 := s.p.drop (1 + (s.p.getD 0 0).toNat)
def StmS.cn (s : StmS) (all : List UInt8) : List UInt8 × List UInt8 × List UInt8 := cnt1 s.E s.wd all [] s.c0
def StmS.blk (s : StmS) (all : List UInt8) : List UInt8 × List UInt8 := blkN s.mode s.enc s.E s.D (s.nb all.length) s.p all
def parOk (mode : Nat) (p : List UInt8) : Prop :=
 if mode = 1 then p = [] else if mode = 4 then p.length = 17 ∧ 1 ≤ (p.getD 0 0).toNat ∧ (p.getD 0 0).toNat ≤ 128 else if mode = 5 then gcmOk p else p.length = 16
instance (mode : Nat) (p : List UInt8) : Decidable (parOk mode p) := by unfold parOk; infer_instance
structure StrB (w : World) (G : List Nat) (d : Nat) (s : StmS) (all : List UInt8) (x : BX) (W : Option Addr) (m cw : Nat) (L : Option Addr) (nl cl : Nat) : Prop where
 xd : x.d = d
 xm : x.mode = s.mode
 xe : x.enc = s.enc
 xk : x.ks = s.ks
 xr : x.R = s.R
 bk : BkW w x W m cw (all.drop (16 * s.nb all.length)) L nl cl (s.blk all).2
 g1 : d ∈ G ∧ x.c ∈ G ∧ x.K ∈ G
 g2 : ∀ ad, (W = some ad ∨ L = some ad) → ad.block ∈ G
structure StrG (w : World) (G : List Nat) (d : Nat) (s : StmS) (wl ctr pl ol : List UInt8) (x : GX) (W P M D O : Vw) : Prop where
 xd : x.d = d
 xm : x.mode = s.mode
 xe : x.enc = s.enc
 xk : x.ks = s.ks
 xr : x.R = s.R
 xw : x.wd = s.wd
 gc : GcAt w x W ctr P M D O
 wl : W.l = wl
 pl : P.l = pl
 ol : O.l = ol
 md : s.mode = 5 → M.l = s.E s.j ∧ D.l = s.data
 wn : s.mode = 4 ∨ s.enc = true → W = nilW
 on : s.mode = 4 ∨ s.enc = false → O = nilW
 g1 : d ∈ G ∧ x.c ∈ G ∧ x.K ∈ G ∧ x.gc ∈ G
 g2 : ∀ ad, (W.A = some ad ∨ P.A = some ad ∨ M.A = some ad ∨ D.A = some ad ∨ O.A = some ad) → ad.block ∈ G
def StrAt (w : World) (G : List Nat) (d : Nat) (s : StmS) (all : List UInt8) : Prop :=
 ((s.mode = 1 ∨ s.mode = 2 ∨ s.mode = 3) ∧ ∃ x W m cw L nl cl, StrB w G d s all x W m cw L nl cl) ∨
 (s.mode = 4 ∧ ∃ x W P M D O, StrG w G d s [] (s.cn all).2.2 (s.cn all).2.1 [] x W P M D O) ∨
 (s.mode = 5 ∧ s.enc = true ∧ ∃ x W P M D O, StrG w G d s [] (s.cn all).2.2 (s.cn all).2.1 (s.cn all).1 x W P M D O) ∨
 (s.mode = 5 ∧ s.enc = false ∧ ∃ x W P M D O, StrG w G d s all s.c0 [] [] x W P M D O)
theorem blkN_zero (mode : Nat) (enc : Bool) (E D : List UInt8 → List UInt8) (iv l : List UInt8) : blkN mode enc E D 0 iv l = ([], iv) := rfl
theorem StmS.nb0 (s : StmS) : s.nb ([] : List UInt8).length = 0 := by unfold StmS.nb; simp
def NewRes (w : World) (s : StmS) (w' : World) (d : Nat) : Prop := ∃ G, StrAt w' G d s [] ∧ (∀ x ∈ G, w.heap.size ≤ x ∧ x < w'.heap.size) ∧ Old w w'
theorem begB_any (d c kb R cp mode : Nat) (enc : Bool) (ks : List UInt8) (A : Option Addr) (m cm : Nat) (p : List UInt8) (w : World) (h : Blk w d 139 (st0 mode enc c)) (hc : Cip w 0 c ks kb R cp) (hp : Own w 0 (.slice A m cm) p) (hm : m ≤ 2000000) (hmode : mode = 1 ∨ mode = 2 ∨ mode = 3) :
  Calls Tryz.prog 94 #[.pointer (some ⟨d, 0, none⟩), .slice A m cm] w fun e w' => Turn [d] w w' ∧ ((e = .returned (.bool false) ∧ ¬ parOk mode p) ∨ (e = .returned (.bool true) ∧ parOk mode p ∧ ∃ (L : Option Addr) (nl cl : Nat), BkW w' ⟨d, c, kb, R, cp, mode, enc, ks⟩ none 0 0 [] L nl cl p ∧ (∀ ad, L = some ad → ∃ a0, A = some a0 ∧ ad.block = a0.block))) := by
 have hml := hp.len
 have y0 := h.cell 0
 simp only [st0, stB, List.getElem?_toArray, List.getElem?_cons_zero] at y0
 have hNd : NoB w d := NoB.of h rfl
 by_cases h1 : mode = 1
 ·subst h1
  rw [show ((1 : Nat) : Int) = 1 from rfl] at y0
  have HH := Lib.hid (And.intro h (And.intro hc (And.intro hp hml)))
  clear h hc hml hp hmode hNd
  by_cases h0 : m = 0
  ·subst h0
   go_enter Tryz.func94, Tryz.ntmps94
   go_wp2_with fail
   go_ret
   have hp0 : p = [] := List.length_eq_zero_iff.1 HH.out.2.2.2.symm
   subst hp0
   refine ⟨Turn.refl _ _, .inr ⟨rfl, by unfold parOk; rw [if_pos rfl], none, 0, 0, ⟨⟨HH.out.1, HH.out.2.1, Rd.nil _, fun e => absurd rfl e⟩, OwnO.nil _ _, Ahead.none _ _ _, fun b e => by cases e⟩, fun ad e => by cases e⟩⟩
  ·have hb : ((m : Int) == 0) = false := by simp; omega
   have hb1 : ¬ (m : Int) = 0 := by omega
   go_enter Tryz.func94, Tryz.ntmps94
   go_wp2_with fail
   go_ret
   refine ⟨Turn.refl _ _, .inl ⟨rfl, fun e => ?_⟩⟩
   unfold parOk at e
   rw [if_pos rfl] at e
   have := HH.out.2.2.2
   rw [e] at this
   simp at this
   omega
 ·have hpo : parOk mode p ↔ p.length = 16 := by unfold parOk; rw [if_neg h1, if_neg (by omega), if_neg (by omega)]
  have a1 : ((mode : Int) == 1) = false := by simp; omega
  have a2 : ¬ (mode : Int) = 1 := by omega
  have a3 : ((mode : Int) == 4) = false := by simp; omega
  have a4 : ¬ (mode : Int) = 4 := by omega
  have a5 : ((mode : Int) == 5) = false := by simp; omega
  have a6 : ¬ (mode : Int) = 5 := by omega
  have y3 := h.cell 3
  have f3 := h.frozen 3
  simp only [st0, stB, List.getElem?_toArray, List.getElem?_cons_zero, List.getElem?_cons_succ] at y3
  have hT : Turn [d] w (w.setCell ⟨d, 3, none⟩ (.slice A m cm)) := turn_put
  have hB3 := h.set_ 3 (.slice A m cm)
  have hr3 := hp.rd.turnB hT (fun g hg => by simp at hg; subst hg; exact hNd)
  have hc3 := hc.turn hT (by simp; exact (hc.nd h hNd).1) (by simp; exact (hc.nd h hNd).2)
  have HH := Lib.hid (And.intro hT (And.intro hB3 (And.intro hr3 (And.intro hc3 (And.intro hml hpo)))))
  clear h hc hp hmode hNd h1 hT hB3 hr3 hc3 hml hpo
  by_cases h16 : m = 16
  ·have hb16 : ((m : Int) == 16) = true := by rw [h16]; rfl
   have HM := Lib.hid h16
   clear h16
   go_enter Tryz.func94, Tryz.ntmps94
   go_wp2_with fail
   go_ret
   exact ⟨HH.out.1, .inr ⟨rfl, HH.out.2.2.2.2.2.2 (by rw [← HH.out.2.2.2.2.1]; exact HM.out), A, m, cm, ⟨⟨HH.out.2.1, HH.out.2.2.2.1, HH.out.2.2.1, fun _ => HM.out⟩, OwnO.nil _ _, fun a b _ e => (by cases e), fun b e => (by cases e)⟩, fun ad e => ⟨ad, e, rfl⟩⟩⟩
  ·have hb16 : ((m : Int) == 16) = false := by simp; omega
   have hb17 : ¬ (m : Int) = 16 := by omega
   have HM := Lib.hid h16
   clear h16
   go_enter Tryz.func94, Tryz.ntmps94
   go_wp2_with fail
   go_ret
   exact ⟨HH.out.1, .inl ⟨rfl, fun e => HM.out (by rw [HH.out.2.2.2.2.1]; exact HH.out.2.2.2.2.2.1 e)⟩⟩
theorem begG_any (d c kb R cp : Nat) (enc : Bool) (ks : List UInt8) (A : Option Addr) (m cm : Nat) (p : List UInt8) (w : World) (h : Blk w d 139 (st0 5 enc c)) (hc : Cip w 0 c ks kb R cp) (hp : Own w 0 (.slice A m cm) p) (hm : m ≤ 2000000) :
  Calls Tryz.prog 94 #[.pointer (some ⟨d, 0, none⟩), .slice A m cm] w fun e w' => Turn [d] w w' ∧ ((e = .returned (.bool false) ∧ ¬ parOk 5 p) ∨ (e = .returned (.bool true) ∧ parOk 5 p ∧ ∃ (gc cc : Nat) (M D : Vw), GcAt w' ⟨d, c, kb, R, cp, ks, 5, enc, gc, 0, cc, 32⟩ nilW (stepL 32 (gcmJ (encL ks R) p)) nilW M D nilW ∧
   M.l = encL ks R (gcmJ (encL ks R) p) ∧ D.l = p.drop (1 + (p.getD 0 0).toNat) ∧ w.heap.size ≤ gc ∧ (∀ ad, M.A = some ad → w.heap.size ≤ ad.block) ∧ (∀ ad, D.A = some ad → ∃ a0, A = some a0 ∧ ad.block = a0.block))) := by
 have hpo : parOk 5 p ↔ gcmOk p := by unfold parOk; rw [if_neg (by decide), if_neg (by decide), if_pos rfl]
 have y0 := h.cell 0
 simp only [st0, stB, List.getElem?_toArray, List.getElem?_cons_zero] at y0
 rw [show ((5 : Nat) : Int) = 5 from rfl] at y0
 by_cases hk : gcmOk p
 ·have hcall := gcm_any d c kb R cp enc ks A m cm p w h hc hp hm hk
  have HH := Lib.hid (And.intro hcall (hpo.2 hk))
  clear h hc hp hcall hpo hk
  go_enter Tryz.func94, Tryz.ntmps94
  go_wp2_with fail
  refine HH.out.1.mono ?_
  rintro e w1 ⟨rfl, gc, cc, M, D, g1, g2, g3, g4, g5, g6, g7⟩
  have HR := Lib.hid (And.intro g1 (And.intro g2 (And.intro g3 (And.intro g4 (And.intro g5 (And.intro g6 g7))))))
  clear g1 g2 g3 g4 g5 g6 g7
  go_wp2_with fail
  go_ret
  exact ⟨HR.out.2.2.2.2.2.2, .inr ⟨rfl, HH.out.2, gc, cc, M, D, HR.out.1, HR.out.2.1, HR.out.2.2.1, HR.out.2.2.2.1, HR.out.2.2.2.2.1, HR.out.2.2.2.2.2.1⟩⟩
 ·have hcall := gcm_no d _ A m cm p w h hp.rd hm hk
  have HH := Lib.hid (And.intro hcall (fun e => hk (hpo.1 e)))
  clear h hc hp hcall hpo hk
  go_enter Tryz.func94, Tryz.ntmps94
  go_wp2_with fail
  refine HH.out.1.mono ?_
  rintro e w1 ⟨rfl, rfl⟩
  go_wp2_with fail
  go_ret
  exact ⟨Turn.refl _ _, .inl ⟨rfl, HH.out.2⟩⟩
def BegC (d c kb R cp : Nat) (enc : Bool) (ks : List UInt8) (A : Option Addr) (p : List UInt8) (w : World) (e : Ending) (w' : World) : Prop :=
 Turn [d] w w' ∧ ((e = .returned (.bool false) ∧ ¬ parOk 4 p) ∨ (e = .returned (.bool true) ∧ parOk 4 p ∧ ∃ (gc cc : Nat), GcAt w' ⟨d, c, kb, R, cp, ks, 4, enc, gc, 1, cc, (p.getD 0 0).toNat⟩ nilW (p.drop 1) nilW nilW nilW nilW ∧
   (∃ a0, A = some a0 ∧ gc = a0.block)))
set_option maxHeartbeats 2000000 in
theorem begC_any (d c kb R cp : Nat) (enc : Bool) (ks : List UInt8) (A : Option Addr) (m cm : Nat) (p : List UInt8) (w : World) (h : Blk w d 139 (st0 4 enc c)) (hc : Cip w 0 c ks kb R cp) (hp : Own w 0 (.slice A m cm) p) (hm : m ≤ 2000000)
  (hsep : ∀ ad, A = some ad → ad.block ≠ c ∧ ad.block ≠ kb) :
  Calls Tryz.prog 94 #[.pointer (some ⟨d, 0, none⟩), .slice A m cm] w (BegC d c kb R cp enc ks A p w) := by
 have hpo : parOk 4 p ↔ p.length = 17 ∧ 1 ≤ (p.getD 0 0).toNat ∧ (p.getD 0 0).toNat ≤ 128 := by unfold parOk; rw [if_neg (by decide), if_pos rfl]
 have y0 := h.cell 0
 simp only [st0, stB, List.getElem?_toArray, List.getElem?_cons_zero] at y0
 rw [show ((4 : Nat) : Int) = 4 from rfl] at y0
 have hml := hp.len
 by_cases h17 : m = 17
 ·obtain ⟨g, cm', e⟩ := hp.form (by intro e; injection e with _ e2 _; omega)
  injection e with e1 e2 e3
  subst e1 e3
  clear e2
  obtain ⟨z, hz⟩ : ∃ z, p[0]? = some z := ⟨_, List.getElem?_eq_getElem (by omega)⟩
  have hzd : p.getD 0 0 = z := by rw [List.getD_eq_getElem?_getD, hz]; rfl
  have hz0 := hp.at_.2 0 z hz
  rw [Nat.add_zero] at hz0
  have hcv := conv_Bi z
  rw [hzd] at hpo
  subst h17
  have hmc := hp.rd.2.1
  have hmm := hp.rd.2.2.1
  by_cases hr : 1 ≤ z.toNat ∧ z.toNat ≤ 128
  ·have g1 : ltN z 1 = false := decide_eq_false (by omega)
   have g2 : gtN z 128 = false := decide_eq_false (by omega)
   have hNd : NoB w d := NoB.of h rfl
   have hgd : g ≠ d := fun e => by
    subst e
    exact hp.notin (Blk.noRow h (by decide)) rfl
   obtain ⟨n, hzn⟩ : ∃ n, z.toNat = n := ⟨_, rfl⟩
   rw [hzn] at hcv hpo hr
   have y5 := h.cell 5
   have y6 := h.cell 6
   have f5 := h.frozen 5
   have f6 := h.frozen 6
   simp only [st0, stB, List.getElem?_toArray, List.getElem?_cons_zero, List.getElem?_cons_succ] at y5 y6
   have hB6 := (h.drew.set_ 6 (.int .i64 (n : Int))).set_ 5 (.slice (some ⟨g, 1, none⟩) 16 (cm - 1))
   have hT6 : Turn [d] w ((w.drew.setCell ⟨d, 6, none⟩ (.int .i64 (n : Int))).setCell ⟨d, 5, none⟩ (.slice (some ⟨g, 1, none⟩) 16 (cm - 1))) := ((Turn.drew (Turn.refl [d] w)).trans turn_put (fun y hy => .inl hy)).trans turn_put (fun y hy => .inl hy)
   have hC6 := (CtrAt.of_own hp 1 rfl).turn hT6 (by simp; exact hgd)
   have hc6 := hc.turn hT6 (by simp; exact (hc.nd h hNd).1) (by simp; exact (hc.nd h hNd).2)
   have hck := hsep _ rfl
   have hsl := fun W : World => slice_from (some ⟨g, 0, none⟩) 17 cm 1 (by omega) W
   rw [if_neg (by omega), show ((1 : Nat) : Int) = 1 from rfl] at hsl
   simp only [Option.map_some, Addr.add_mid, Nat.zero_add] at hsl
   have HH := Lib.hid (And.intro hT6 (And.intro hB6 (And.intro hC6 (And.intro hc6 (And.intro hck (And.intro hgd (hpo.2 ⟨hml.symm, hr⟩)))))))
   have HQ := Lib.hid (And.intro hz0 hgd)
   have HR := Lib.hid (And.intro hmc (And.intro hmm (And.intro hr (hzd ▸ hzn : (p.getD 0 0).toNat = n))))
   clear h hc hp hpo hNd hgd hzn hB6 hT6 hC6 hc6 hck hsep hz hzd hml
   go_enter Tryz.func94, Tryz.ntmps94
   go_upto_region 7 with fail
   refine region_wordM (Turn [d] w) (by kernel_rfl) (Turn.drew (Turn.refl _ _)) (fun hOd hHeld => ?_)
   obtain ⟨wd, hwd⟩ : ∃ wd, w.drew = wd := ⟨_, rfl⟩
   have y5d : wd.cell? ⟨d, 5, none⟩ = some (.slice none 0 0) := by rw [← hwd]; exact y5
   have y6d : wd.cell? ⟨d, 6, none⟩ = some (.int .i64 0) := by rw [← hwd]; exact y6
   have f5d : wd.frozen? ⟨d, 5, none⟩ = false := by rw [← hwd]; exact f5
   have f6d : wd.frozen? ⟨d, 6, none⟩ = false := by rw [← hwd]; exact f6
   rw [hwd] at hOd hHeld ⊢
   clear y5 y6 f5 f6
   refine tkS 0 hHeld ?_
   refine tkS 1 hHeld ?_
   refine tkS 2 hHeld ?_
   refine tkS 3 hHeld ?_
   refine tkS 4 hHeld ?_ (hy := by intro wq hSw; have r4 := cell_turn HQ.out.1 hSw (by simp; exact HQ.out.2); clear hSw; go_simp; try with_reducible rfl)
   refine tkS 5 hHeld ?_ (hy := by intro wq hSw; have r5 := hcv wq; clear hSw; go_simp; try with_reducible rfl)
   refine tkS 6 hHeld ?_
   refine tkS 7 hHeld ?_ (hy := by intro wq hSw; have hRun := hsl wq; clear hSw; go_simp; try with_reducible rfl)
   refine tkS 8 hHeld ?_
   refine tkS 9 hHeld ?_
   refine rdL 10 (fun K hK => ?_)
   go_simp
   refine hK.out _ _ (hHeld.trans turn_put (fun y hy => .inl hy)) (fun hHeld => ?_)
   clear hK K
   try simp only [Act.put, sA, sB, sC]
   refine tkS 11 hHeld ?_
   refine tkS 12 hHeld ?_
   refine rdL 13 (fun K hK => ?_)
   go_simp
   refine hK.out _ _ (hHeld.trans turn_put (fun y hy => .inl hy)) (fun hHeld => ?_)
   clear hK K
   try simp only [Act.put, sA, sB, sC]
   refine wpAnyH_done (by kernel_rfl) ?_ _
   refine NoPanic.normal ?_
   simp only [Exit.then]
   try go_at_K
   go_wp2_with fail
   go_ret
   rw [← hwd]
   unfold BegC
   rw [HR.out.2.2.2]
   refine ⟨HH.out.1, .inr ⟨rfl, HH.out.2.2.2.2.2.2, g, cm - 1, ⟨⟨⟨rfl, rfl, rfl, rfl, by have := HR.out.1; show 16 ≤ cm - 1; omega, by have := HR.out.2.1; show cm - 1 ≤ maxLen; omega, by have := HR.out.2.2.1; show n ≤ 1000; omega, fun e => HH.out.2.2.2.2.1.1 e.symm, fun e => HH.out.2.2.2.2.1.2 e.symm, rfl⟩, HH.out.2.1, HH.out.2.2.2.1, HH.out.2.2.1, Rd.nil _, fun ad e => by cases e⟩, OwnO.nil _ _, Rd.nil _, fun e => absurd e (show ¬ (4 = 5) by decide), Rd.nil _, Own.nil _ _, fun ad h => ?_, fun ad h => ?_, ⟨Apart.none_l _, Apart.none_l _, Apart.none_l _, Apart.none_l _⟩, ⟨Apart.none_l _, Apart.none_l _, Apart.none_l _⟩⟩, _, rfl, rfl⟩⟩
   ·rcases h with h | h | h | h <;> cases h
   ·rcases h with h | h <;> cases h
  ·have hno : ¬ parOk 4 p := fun e => hr (hpo.1 e).2
   by_cases h1 : z.toNat < 1
   ·have g1 : ltN z 1 = true := decide_eq_true (by omega)
    have HN := Lib.hid hno
    clear h hc hp hpo hno hr hml hz hzd
    go_enter Tryz.func94, Tryz.ntmps94
    go_wp2_with fail
    go_ret
    exact ⟨Turn.refl _ _, .inl ⟨rfl, HN.out⟩⟩
   ·have g1 : ltN z 1 = false := decide_eq_false (by omega)
    have g2 : gtN z 128 = true := decide_eq_true (by omega)
    have HN := Lib.hid hno
    clear h hc hp hpo hno hr hml hz hzd
    go_enter Tryz.func94, Tryz.ntmps94
    go_wp2_with fail
    go_ret
    exact ⟨Turn.refl _ _, .inl ⟨rfl, HN.out⟩⟩
 ·have hno : ¬ parOk 4 p := fun e => h17 (by rw [hml]; exact (hpo.1 e).1)
  have hb : ((m : Int) != 17) = true := by simp; omega
  have hb1 : ¬ (m : Int) = 17 := by omega
  have HN := Lib.hid hno
  clear h hc hp hpo hno h17 hml
  go_enter Tryz.func94, Tryz.ntmps94
  go_wp2_with fail
  go_ret
  exact ⟨Turn.refl _ _, .inl ⟨rfl, HN.out⟩⟩
end Go.Proofs.YtgjnmpjimhbfgaaGreatDoor
namespace Go.Proofs.YtgjnmpjimhbfgaaGreatDoor
set_option maxRecDepth 100000
open Go.RowKit
def keyOk (k : List UInt8) : Prop := k.length = 16 ∨ k.length = 24 ∨ k.length = 32
instance (k : List UInt8) : Decidable (keyOk k) := by unfold keyOk; infer_instance
def PSof (mode : Nat) (enc : Bool) (k p : List UInt8) : StmS := ⟨mode, enc, rks k, (rks k).length / 16, p⟩
def NewPost (w : World) (mode : Nat) (enc : Bool) (k p : List UInt8) (e : Ending) (w' : World) : Prop :=
 if ¬ keyOk k then e = .returned (.tuple #[.pointer none, .int .i64 98]) ∧ Old w w'
 else if ¬ parOk mode p then e = .returned (.tuple #[.pointer none, .int .i64 113]) ∧ Old w w'
 else ∃ d, e = .returned (.tuple #[.pointer (some ⟨d, 0, none⟩), .int .i64 0]) ∧ NewRes w (PSof mode enc k p) w' d
theorem new_mode (mode : Int) (enc : Bool) (A C : Option Addr) (m cm n cn : Nat) (w : World) (h : mode < 1 ∨ 5 < mode) :
  Calls Tryz.prog 73 #[.int .i64 mode, .bool enc, .slice A m cm, .slice C n cn] w fun e w' => e = .returned (.tuple #[.pointer none, .int .i64 112]) ∧ w = w' := by
 by_cases h1 : mode < 1
 ·have hd : decide (mode < 1) = true := decide_eq_true h1
  clear h
  go_enter Tryz.func73, Tryz.ntmps73
  go_wp2_with fail
  refine bodyPost_ret (results_tmp2 rfl _ _ _) rfl ?_
  exact ⟨rfl, rfl⟩
 ·have hd : decide (mode < 1) = false := decide_eq_false h1
  have h5 : mode > 5 := by omega
  have hd5 : decide (mode > 5) = true := decide_eq_true h5
  clear h
  go_enter Tryz.func73, Tryz.ntmps73
  go_wp2_with fail
  refine bodyPost_ret (results_tmp2 rfl _ _ _) rfl ?_
  exact ⟨rfl, rfl⟩
theorem Below.turn1 {w w1 w2 : World} {d : Nat} (h : Old w w1) (ht : Turn [d] w1 w2) (hd : w.heap.size ≤ d) : Old w w2 := below_turn h ht (fun t ht => by simp at ht; subst ht; exact hd) h.size
theorem newres_B {w w3 : World} {d c kb R cp mode : Nat} {enc : Bool} {k p : List UInt8} (hmode : mode = 1 ∨ mode = 2 ∨ mode = 3) (hR : (rks k).length = 16 * R) {L : Option Addr} {nl cl : Nat} (h : BkW w3 ⟨d, c, kb, R, cp, mode, enc, rks k⟩ none 0 0 [] L nl cl p)
  (hL : ∀ ad, L = some ad → w.heap.size ≤ ad.block) (hd : w.heap.size ≤ d) (hc : w.heap.size ≤ c) (hk : w.heap.size ≤ kb) (hO : Old w w3) : NewRes w (PSof mode enc k p) w3 d := by
 have hR2 : (PSof mode enc k p).R = R := by unfold PSof; simp only; omega
 refine ⟨[d, c, kb] ++ (L.map Addr.block).toList, .inl ⟨hmode, ⟨d, c, kb, R, cp, mode, enc, rks k⟩, none, 0, 0, L, nl, cl, ⟨rfl, rfl, rfl, rfl, hR2.symm, ?_, ⟨by simp, by simp, by simp⟩, fun ad e => ?_⟩⟩, fun x hx => ?_, hO⟩
 ·unfold StmS.blk
  rw [StmS.nb0, blkN_zero]
  exact h
 ·rcases e with e | e
  ·cases e
  ·rw [e]; simp
 ·simp only [List.mem_append, List.mem_cons, List.not_mem_nil, or_false] at hx
  have hcl := h.bkc.cip.lt
  rcases hx with (rfl | rfl | rfl) | hx
  ·exact ⟨hd, h.bkc.blk.lt⟩
  ·exact ⟨hc, hcl.1⟩
  ·exact ⟨hk, hcl.2⟩
  ·cases L with
   | none => simp at hx
   | some ad => simp at hx; rw [hx]; exact ⟨hL ad rfl, h.bkc.last.lt ad rfl⟩
theorem vblk_mem {P : Vw} {ad : Addr} (h : P.A = some ad) : ad.block ∈ (P.A.map Addr.block).toList := by rw [h]; simp
theorem vblk_of {P : Vw} {x : Nat} (h : x ∈ (P.A.map Addr.block).toList) : ∃ ad, P.A = some ad ∧ x = ad.block := by
 cases hA : P.A with
 | none => rw [hA] at h; simp at h
 | some ad => rw [hA] at h; simp at h; exact ⟨ad, rfl, h⟩
theorem newres_G {w w3 : World} {s : StmS} {x : GX} {M D : Vw} (hm : s.mode = 4 ∨ s.mode = 5) (xm : x.mode = s.mode) (xe : x.enc = s.enc) (xk : x.ks = s.ks) (xr : x.R = s.R) (xw : x.wd = s.wd) (h : GcAt w3 x nilW s.c0 nilW M D nilW)
  (hM : s.mode = 5 → M.l = s.E s.j ∧ D.l = s.data) (hMb : ∀ ad, M.A = some ad → w.heap.size ≤ ad.block) (hDb : ∀ ad, D.A = some ad → w.heap.size ≤ ad.block)
  (hd : w.heap.size ≤ x.d) (hc : w.heap.size ≤ x.c) (hk : w.heap.size ≤ x.K) (hg : w.heap.size ≤ x.gc) (hO : Old w w3) : NewRes w s w3 x.d := by
 have hcn : s.cn [] = ([], [], s.c0) := rfl
 have hG : StrG w3 ([x.d, x.c, x.K, x.gc] ++ (M.A.map Addr.block).toList ++ (D.A.map Addr.block).toList) x.d s [] s.c0 [] [] x nilW nilW M D nilW :=
  ⟨rfl, xm, xe, xk, xr, xw, h, rfl, rfl, rfl, hM, fun _ => rfl, fun _ => rfl, ⟨by simp, by simp, by simp, by simp⟩, fun ad e => by
   rcases e with e | e | e | e | e
   ·cases e
   ·cases e
   ·simp only [List.mem_append]; exact .inl (.inr (vblk_mem e))
   ·simp only [List.mem_append]; exact .inr (vblk_mem e)
   ·cases e⟩
 refine ⟨[x.d, x.c, x.K, x.gc] ++ (M.A.map Addr.block).toList ++ (D.A.map Addr.block).toList, ?_, fun y hy => ?_, hO⟩
 ·rcases hm with hm | hm
  ·exact .inr (.inl ⟨hm, x, _, _, _, _, _, hG⟩)
  ·cases he : s.enc with
   | true => exact .inr (.inr (.inl ⟨hm, he, x, _, _, _, _, _, hG⟩))
   | false => exact .inr (.inr (.inr ⟨hm, he, x, _, _, _, _, _, hG⟩))
 ·simp only [List.mem_append, List.mem_cons, List.not_mem_nil, or_false] at hy
  have hcl : x.c < w3.heap.size ∧ x.K < w3.heap.size := h.cnt.cip.lt
  rcases hy with ((rfl | rfl | rfl | rfl) | hy) | hy
  ·exact ⟨hd, h.cnt.blk.lt⟩
  ·exact ⟨hc, hcl.1⟩
  ·exact ⟨hk, hcl.2⟩
  ·exact ⟨hg, h.cnt.ctr.lt⟩
  ·obtain ⟨ad, e1, e2⟩ := vblk_of hy
   rw [e2]; exact ⟨hMb ad e1, Rd.lt h.mask ad e1⟩
  ·obtain ⟨ad, e1, e2⟩ := vblk_of hy
   rw [e2]; exact ⟨hDb ad e1, Rd.lt h.data ad e1⟩
theorem begin_any (w : World) (d c kb R cp mode : Nat) (enc : Bool) (k p : List UInt8) (A : Option Addr) (m cm : Nat) (w2 : World) (h : Blk w2 d 139 (st0 mode enc c)) (hcip : Cip w2 0 c (rks k) kb R cp) (hp : Own w2 0 (.slice A m cm) p) (hm : m ≤ 2000000) (h1 : 1 ≤ mode) (h5 : mode ≤ 5)
  (hd : w.heap.size ≤ d) (hc : w.heap.size ≤ c) (hk : w.heap.size ≤ kb) (hA : ∀ ad, A = some ad → w.heap.size ≤ ad.block ∧ ad.block ≠ c ∧ ad.block ≠ kb) (hO : Old w w2) :
  Calls Tryz.prog 94 #[.pointer (some ⟨d, 0, none⟩), .slice A m cm] w2 fun e w' => ∃ b, e = .returned (.bool b) ∧ b = decide (parOk mode p) ∧ Old w w' ∧ (b = true → NewRes w (PSof mode enc k p) w' d) := by
 have hR : (rks k).length = 16 * R := hcip.2.2.2.2.2.1
 have hR2 : (PSof mode enc k p).R = R := by unfold PSof; simp only; omega
 by_cases hb : mode = 1 ∨ mode = 2 ∨ mode = 3
 ·refine (begB_any d c kb R cp mode enc (rks k) A m cm p w2 h hcip hp hm hb).mono ?_
  rintro e w' ⟨ht, ⟨rfl, hn⟩ | ⟨rfl, hy, L, nl, cl, hB, hL⟩⟩
  ·exact ⟨false, rfl, (decide_eq_false hn).symm, Below.turn1 hO ht hd, fun e => by cases e⟩
  ·exact ⟨true, rfl, (decide_eq_true hy).symm, Below.turn1 hO ht hd, fun _ => newres_B hb hR hB (fun ad e => by obtain ⟨a0, e1, e2⟩ := hL ad e; rw [e2]; exact (hA a0 e1).1) hd hc hk (Below.turn1 hO ht hd)⟩
 ·by_cases h4 : mode = 4
  ·subst h4
   refine (begC_any d c kb R cp enc (rks k) A m cm p w2 h hcip hp hm (fun ad e => (hA ad e).2)).mono ?_
   rintro e w' ⟨ht, ⟨rfl, hn⟩ | ⟨rfl, hy, gc, cc, hG, a0, e1, e2⟩⟩
   ·exact ⟨false, rfl, (decide_eq_false hn).symm, Below.turn1 hO ht hd, fun e => by cases e⟩
   ·exact ⟨true, rfl, (decide_eq_true hy).symm, Below.turn1 hO ht hd, fun _ => newres_G (x := ⟨d, c, kb, R, cp, rks k, 4, enc, gc, 1, cc, (p.getD 0 0).toNat⟩) (s := PSof 4 enc k p) (.inl rfl) rfl rfl rfl hR2.symm rfl hG (fun e => absurd e (show ¬ (4 = 5) by decide)) (fun ad e => by cases e) (fun ad e => by cases e) hd hc hk (by show w.heap.size ≤ gc; rw [e2]; exact (hA a0 e1).1) (Below.turn1 hO ht hd)⟩
  ·obtain rfl : mode = 5 := by omega
   refine (begG_any d c kb R cp enc (rks k) A m cm p w2 h hcip hp hm).mono ?_
   rintro e w' ⟨ht, ⟨rfl, hn⟩ | ⟨rfl, hy, gc, cc, M, D, hG, g2, g3, g4, g5, g6⟩⟩
   ·exact ⟨false, rfl, (decide_eq_false hn).symm, Below.turn1 hO ht hd, fun e => by cases e⟩
   ·have hE : (PSof 5 enc k p).E = encL (rks k) R := by unfold StmS.E; rw [hR2]; rfl
    have hj : (PSof 5 enc k p).j = gcmJ (encL (rks k) R) p := by unfold StmS.j; rw [hE]; rfl
    have hc0 : (PSof 5 enc k p).c0 = stepL 32 (gcmJ (encL (rks k) R) p) := by unfold StmS.c0; rw [hj]; rfl
    rw [← hc0] at hG
    exact ⟨true, rfl, (decide_eq_true hy).symm, Below.turn1 hO ht hd, fun _ => newres_G (x := ⟨d, c, kb, R, cp, rks k, 5, enc, gc, 0, cc, 32⟩) (s := PSof 5 enc k p) (.inr rfl) rfl rfl rfl hR2.symm rfl hG (fun _ => ⟨by rw [g2, hE, hj], g3⟩) (fun ad e => Nat.le_trans hO.size (g5 ad e)) (fun ad e => by obtain ⟨a0, e1, e2⟩ := g6 ad e; rw [e2]; exact (hA a0 e1).1) hd hc hk (Nat.le_trans hO.size g4) (Below.turn1 hO ht hd)⟩
set_option maxHeartbeats 2000000 in
theorem modesNew_any (mode : Nat) (enc : Bool) (A C : Option Addr) (mk ck m cm : Nat) (k p : List UInt8) (w : World) (hk : Rd w A mk ck k) (hp : Rd w C m cm p) (hm : m ≤ 2000000) (h1 : 1 ≤ mode) (h5 : mode ≤ 5) :
  Calls Tryz.prog 73 #[.int .i64 (mode : Int), .bool enc, .slice A mk ck, .slice C m cm] w (NewPost w mode enc k p) := by
 have hd1 : decide ((mode : Int) < 1) = false := decide_eq_false (by omega)
 have hi1 : ¬ (mode : Int) < 1 := by omega
 have hd5 : decide ((mode : Int) > 5) = false := decide_eq_false (by omega)
 have hi5 : ¬ (mode : Int) > 5 := by omega
 by_cases hko : keyOk k
 ·have HH := Lib.hid (And.intro hk (And.intro hp (And.intro hko (And.intro h1 h5))))
  clear hk hp hko h1 h5
  go_enter Tryz.func73, Tryz.ntmps73
  go_wp2_with fail
  refine (new_any_q A mk ck k w HH.out.1 HH.out.2.2.1).mono ?_
  rintro e w1 ⟨c, kb, R, cq, rfl, hC, hB⟩
  have H1 := Lib.hid (And.intro hC hB)
  clear hC hB
  go_upto_region 6 with fail
  have hB2 : Blk (w1.alloc (.cells #[.int .i64 (mode : Int), .bool enc, .pointer (some ⟨c, 0, none⟩), .slice none 0 0, .slice none 0 0, .slice none 0 0, .int .i64 0, .slice none 0 0, .slice none 0 0, .slice none 0 0, .slice none 0 0, .bool false] 139)) w1.heap.size 139 (st0 mode enc c) := Blk.new _ _ _
  have hO2 := (Old.refl w1).alloc (.cells #[.int .i64 (mode : Int), .bool enc, .pointer (some ⟨c, 0, none⟩), .slice none 0 0, .slice none 0 0, .slice none 0 0, .int .i64 0, .slice none 0 0, .slice none 0 0, .slice none 0 0, .slice none 0 0, .bool false] 139)
  obtain ⟨w2, hw2⟩ : ∃ w2, w1.alloc (.cells #[.int .i64 (mode : Int), .bool enc, .pointer (some ⟨c, 0, none⟩), .slice none 0 0, .slice none 0 0, .slice none 0 0, .int .i64 0, .slice none 0 0, .slice none 0 0, .slice none 0 0, .slice none 0 0, .bool false] 139) = w2 := ⟨_, rfl⟩
  rw [hw2] at hB2 hO2 ⊢
  obtain ⟨d, hd⟩ : ∃ d, w1.heap.size = d := ⟨_, rfl⟩
  rw [hd] at hB2 ⊢
  have hC1 := H1.out.1
  have hC0 : Cip w1 0 c (rks k) kb R cq := ⟨hC1.1, Nat.zero_le _, Nat.zero_le _, hC1.2.2.2⟩
  have HD := Lib.hid (And.intro hB2 (And.intro hO2 (And.intro hd (hC0.below hO2))))
  clear hB2 hO2 hd hw2 hC1 hC0
  go_wp2_with fail
  refine (clone_own_q C m cm p w2 ((HH.out.2.1.below H1.out.2).below HD.out.2.1) (by omega)).mono ?_
  rintro e w3 ⟨A3, n3, c3, rfl, ho3, hB3⟩
  have hn3 : n3 ≤ 2000000 := by have := ho3.len; have := HH.out.2.1.1; omega
  have hcl := H1.out.1.lt
  have hcall := begin_any w d c kb R cq mode enc k p A3 n3 c3 w3 (HD.out.1.below hB3) (HD.out.2.2.2.below hB3) (ho3.mono (Nat.zero_le _)) hn3 HH.out.2.2.2.1 HH.out.2.2.2.2 (by rw [← HD.out.2.2.1]; exact H1.out.2.size) H1.out.1.2.1 H1.out.1.2.2.1
   (fun ad e => by have h9 := ho3.addr_ge ad e; have := H1.out.2.size; have := HD.out.2.1.size; exact ⟨by omega, by omega, by omega⟩) ((Old.trans H1.out.2 HD.out.2.1).trans hB3)
  have HC := Lib.hid hcall
  clear hcall ho3 hB3 hcl
  go_wp2_with fail
  refine HC.out.mono ?_
  rintro e w4 ⟨b, rfl, hb, hO4, hres⟩
  cases b with
  | true =>
   have HR := Lib.hid (And.intro hb (hres rfl))
   clear hb hres hO4
   go_wp2_with fail
   refine bodyPost_ret (results_tmp2 rfl _ _ _) rfl ?_
   unfold NewPost
   rw [if_neg (fun h => h HH.out.2.2.1), if_neg (fun h => h (of_decide_eq_true HR.out.1.symm))]
   exact ⟨d, rfl, HR.out.2⟩
  | false =>
   have HR := Lib.hid (And.intro hb hO4)
   clear hb hres hO4
   go_wp2_with fail
   refine bodyPost_ret (results_tmp2 rfl _ _ _) rfl ?_
   unfold NewPost
   rw [if_neg (fun h => h HH.out.2.2.1), if_pos (of_decide_eq_false HR.out.1.symm)]
   exact ⟨rfl, HR.out.2⟩
 ·have hk3 : mk ≠ 16 ∧ mk ≠ 24 ∧ mk ≠ 32 := by
   have := hk.1
   unfold keyOk at hko
   omega
  have HH := Lib.hid (And.intro hko hk3)
  clear hk hp hko hk3
  go_enter Tryz.func73, Tryz.ntmps73
  go_wp2_with fail
  refine (new_no A mk ck w HH.out.2).mono ?_
  rintro e w1 ⟨rfl, hw⟩
  subst hw
  go_wp2_with fail
  refine bodyPost_ret (results_tmp2 rfl _ _ _) rfl ?_
  unfold NewPost
  rw [if_pos HH.out.1]
  exact ⟨rfl, (Old.refl _).alloc _⟩
def StmS.front (s : StmS) (all : List UInt8) : List UInt8 :=
 if s.mode = 4 then (s.cn all).1 else if s.mode = 5 then (if s.enc then (s.cn all).1 else []) else (s.blk all).1
theorem StmS.nb_add (s : StmS) (a b : Nat) : s.nb (a + b) = s.nb a + ((a - 16 * s.nb a + b) - s.keep) / 16 := by
 unfold StmS.nb
 have : s.keep ≤ 1 := by unfold StmS.keep; split <;> omega
 generalize s.keep = k at *
 omega
theorem StmS.nb_le (s : StmS) (a : Nat) : 16 * s.nb a ≤ a := by unfold StmS.nb; omega
theorem StmS.blk_add (s : StmS) (all b : List UInt8) : s.blk (all ++ b) = ((s.blk all).1 ++ (blkN s.mode s.enc s.E s.D (((all.drop (16 * s.nb all.length) ++ b).length - s.keep) / 16) (s.blk all).2 (all.drop (16 * s.nb all.length) ++ b)).1,
  (blkN s.mode s.enc s.E s.D (((all.drop (16 * s.nb all.length) ++ b).length - s.keep) / 16) (s.blk all).2 (all.drop (16 * s.nb all.length) ++ b)).2) ∧
  (all.drop (16 * s.nb all.length) ++ b).drop (16 * (((all.drop (16 * s.nb all.length) ++ b).length - s.keep) / 16)) = (all ++ b).drop (16 * s.nb (all ++ b).length) := by
 have h1 := s.nb_le all.length
 have h2 : (all.drop (16 * s.nb all.length) ++ b).length = all.length - 16 * s.nb all.length + b.length := by simp
 have h3 : s.nb (all ++ b).length = s.nb all.length + ((all.drop (16 * s.nb all.length) ++ b).length - s.keep) / 16 := by rw [h2, List.length_append, s.nb_add]
 have h4 : (all ++ b).drop (16 * s.nb all.length) = all.drop (16 * s.nb all.length) ++ b := List.drop_append_of_le_length h1
 constructor
 ·unfold StmS.blk
  rw [h3, blkN_add, h4, blkN_front _ _ _ _ _ _ _ _ h1]
 ·rw [h3, Nat.mul_add, ← h4, List.drop_drop]
theorem drop_front (X Y : List UInt8) : (X ++ Y).drop X.length = Y := by simp
def UpdRes (w : World) (G : List Nat) (d : Nat) (s : StmS) (all b : List UInt8) (e : Ending) (w' : World) : Prop :=
 ∃ (A : Option Addr) (n c : Nat) (G' : List Nat), e = .returned (.slice A n c) ∧ Own w' w.heap.size (.slice A n c) ((s.front (all ++ b)).drop (s.front all).length) ∧ StrAt w' G' d s (all ++ b) ∧ Turn G w w' ∧ (∀ x ∈ G', x ∈ G ∨ w.heap.size ≤ x) ∧ (∀ x ∈ G', x < w'.heap.size) ∧ (∀ g, (Value.slice A n c).ownBlock = some g → g ∉ G') ∧ n ≤ all.length + b.length
theorem Rd.turnX {w w' : World} {A : Option Addr} {m c : Nat} {l : List UInt8} {S : List Nat} (h : Rd w A m c l) (ht : Turn S w w') (hS : ∀ g ∈ S, NoB w g ∨ ∀ ad, A = some ad → ad.block ≠ g) : Rd w' A m c l := by
 rcases Nat.eq_zero_or_pos m with rfl | hm
 ·obtain rfl : l = [] := List.length_eq_zero_iff.1 h.1.symm
  obtain ⟨h1, h2, h3, h4⟩ := h
  refine ⟨h1, h2, h3, ?_⟩
  rcases h4 with h4 | ⟨b, off, hA, hat⟩
  ·exact .inl h4
  ·exact .inr ⟨b, off, hA, Nat.lt_of_lt_of_le hat.1 ht.size, fun k x hk => by simp at hk⟩
 ·refine h.turn ht (fun ad e hm2 => ?_)
  rcases hS _ hm2 with h1 | h1
  ·exact h1.ne h hm ad e rfl
  ·exact h1 ad e rfl
theorem BkW.grown {w w1 : World} {x : BX} {W L A : Option Addr} {m cw nl cl n c : Nat} {wait last l : List UInt8} (h : BkW w x W m cw wait L nl cl last) (hG : GrewO 0 w w1 W m cw A n c l) : BkW (w1.setCell ⟨x.d, 4, none⟩ (.slice A n c)) x A n c l L nl cl last := by
 have hd : x.d < w.heap.size := h.bkc.blk.lt
 have hcl := h.bkc.cip.lt
 have hA : ∀ ad, A = some ad → W = some ad ∧ c = cw ∨ ad.block = w.heap.size := fun ad e => by
  rcases hG.at_ with ⟨h1, h2⟩ | h1
  ·exact .inl ⟨by rw [← h1]; exact e, h2⟩
  ·rw [e] at h1; exact .inr (by simpa using h1)
 have hsep : ∀ b, A = some b → b.block ≠ x.c ∧ b.block ≠ x.K ∧ b.block ≠ x.d := fun b e => by
  rcases hA b e with ⟨h1, _⟩ | h1
  ·exact h.sep b h1
  ·rw [h1]; exact ⟨by omega, by omega, by omega⟩
 refine ⟨(h.grow hG).put4 A n c, hG.own.turn turn_put (fun ad e => by simp; exact (hsep ad e).2.2), fun a b e1 e2 e3 => ?_, hsep⟩
 rcases hA b e2 with ⟨h1, h2⟩ | h1
 ·rw [h2]; exact h.ahead a b e1 h1 e3
 ·have := h.bkc.last.lt a e1
  omega
set_option maxHeartbeats 2000000 in
theorem updB_any (G : List Nat) (d : Nat) (s : StmS) (all : List UInt8) (x : BX) (W : Option Addr) (m cw : Nat) (L : Option Addr) (nl cl : Nat) (A : Option Addr) (n c : Nat) (b : List UInt8) (w : World) (h : StrB w G d s all x W m cw L nl cl) (hm : s.mode = 1 ∨ s.mode = 2 ∨ s.mode = 3) (hr : Rd w A n c b) (hGl : ∀ x ∈ G, x < w.heap.size) (hn : all.length + n ≤ 100000) :
  Calls Tryz.prog 74 #[.pointer (some ⟨d, 0, none⟩), .slice A n c] w (UpdRes w G d s all b) := by
 obtain ⟨xd, xm, xe, xk, xr, bk, g1, g2⟩ := h
 have hE : x.E = s.E := by unfold BX.E StmS.E; rw [xk, xr]
 have hD : x.D = s.D := by unfold BX.D StmS.D; rw [xk, xr]
 subst xd
 have y0 := bk.bkc.c0
 have y11 : w.cell? ⟨x.d, 11, none⟩ = some (.bool false) := bk.bkc.blk.cell 11
 have y4 := bk.bkc.c4
 have a3 : ((x.mode : Int) == 4) = false := by simp; omega
 have a4 : ¬ (x.mode : Int) = 4 := by omega
 have a5 : ((x.mode : Int) == 5) = false := by simp; omega
 have a6 : ¬ (x.mode : Int) = 5 := by omega
 have hbl : n = b.length := hr.1
 have hwl : m = all.length - 16 * s.nb all.length := by rw [bk.wait.rd.1]; simp
 have hadd := s.blk_add all b
 have hfr : ∀ l, s.front l = (s.blk l).1 := fun l => by unfold StmS.front; rw [if_neg (by omega), if_neg (by omega)]
 have hkeep : s.keep = if (decide (x.mode = 3) && !x.enc) = true then 1 else 0 := by unfold StmS.keep; rw [xm, xe]; cases s.enc <;> by_cases e : s.mode = 3 <;> simp [e]
 have HXK := xk
 have HXR := xr
 have HH := Lib.hid (And.intro bk (And.intro hr (And.intro hbl (And.intro hwl (And.intro hadd (And.intro hfr (And.intro hE (And.intro hD (And.intro xm (And.intro xe (And.intro g1 (And.intro g2 (And.intro hkeep hm)))))))))))))
 clear bk hr hbl hwl hadd hfr hE hD xm xe xk xr g1 g2 hkeep hm
 go_enter Tryz.func74, Tryz.ntmps74
 go_upto_region 14 with (at_builtin; go_must (refine wp_app_O (.tmp 56) (.tmp 57) 0 W m cw _ HH.out.1.wait (Nat.zero_le _) A n c b HH.out.2.1 (by have h1 := HH.out.2.2.1; have h2 := HH.out.2.2.2.1; simp only [List.length_drop]; omega) rfl rfl rfl rfl ?_); intro A1 n1 c1 w1 hG; have hbk1 := HH.out.1.grown hG; have hbk0 := HH.out.1.grow hG; have y4b := hbk0.c4; have f4b := hbk0.frozen 4; have H1 := Lib.hid (And.intro hbk1 (And.intro hG hbk0)); clear hbk1 hG hbk0)
 obtain ⟨w2, hw2⟩ : ∃ w2, w1.setCell ⟨x.d, 4, none⟩ (.slice A1 n1 c1) = w2 := ⟨_, rfl⟩
 have hbk := H1.out.1
 have hT2 : Turn (x.d :: (W.map Addr.block).toList) w w2 := by rw [← hw2]; exact (H1.out.2.1.turn.more (fun y hy => List.mem_cons_of_mem _ hy)).trans turn_put (fun y hy => .inl (by simp at hy; simp [hy]))
 rw [hw2] at hbk ⊢
 have hpad := padded_any x A1 n1 c1 L nl cl _ w2 hbk.bkc
 have hn1 : n1 ≤ 100000 := by have := H1.out.2.1.len; have h1 := HH.out.2.2.1; have h2 := HH.out.2.2.2.1; simp only [List.length_append, List.length_drop] at this; omega
 have hW1 : ∀ ad, A1 = some ad → (∃ a0, W = some a0 ∧ ad.block = a0.block) ∨ w.heap.size ≤ ad.block := fun ad e => by
  rcases H1.out.2.1.at_ with ⟨h1, h2⟩ | h1
  ·exact .inl ⟨ad, by rw [← h1]; exact e, rfl⟩
  ·rw [e] at h1; right; simp at h1; omega
 have hfin : ∀ (e : Ending) (w' : World), (∃ A' n' c' W' m' cw' L' nl' cl', e = .returned (.slice A' n' c') ∧ Own w' w2.heap.size (.slice A' n' c') (blkN x.mode x.enc x.E x.D ((n1 - s.keep) / 16) (s.blk all).2 (all.drop (16 * s.nb all.length) ++ b)).1 ∧
   BkW w' x W' m' cw' ((all.drop (16 * s.nb all.length) ++ b).drop (16 * ((n1 - s.keep) / 16))) L' nl' cl' (blkN x.mode x.enc x.E x.D ((n1 - s.keep) / 16) (s.blk all).2 (all.drop (16 * s.nb all.length) ++ b)).2 ∧ W'.map Addr.block = A1.map Addr.block ∧ From w2.heap.size L' L A1 ∧ Turn [x.d] w2 w' ∧ (∀ ad, L' = some ad → (Value.slice A' n' c').ownBlock ≠ some ad.block) ∧ n' ≤ n1) → UpdRes w G x.d s all b e w' := by
  rintro e w' ⟨A', n', c', W', m', cw', L', nl', cl', rfl, p1, p2, p3, p4, p5, p6, p7⟩
  have hlen := H1.out.2.1.len
  obtain ⟨q1, q2⟩ := HH.out.2.2.2.2.1
  rw [hlen, HH.out.2.2.2.2.2.2.1, HH.out.2.2.2.2.2.2.2.1, HH.out.2.2.2.2.2.2.2.2.1, HH.out.2.2.2.2.2.2.2.2.2.1] at p1 p2
  rw [q2] at p2
  have e1 := congrArg Prod.fst q1
  have e2 := congrArg Prod.snd q1
  simp only at e1 e2
  rw [← e2] at p2
  have g1 := HH.out.2.2.2.2.2.2.2.2.2.2.1
  have g2 := HH.out.2.2.2.2.2.2.2.2.2.2.2.1
  have hWb : ∀ ad, W' = some ad → ad.block ∈ G ∨ w.heap.size ≤ ad.block := fun ad e => by
   obtain ⟨a0, h1, h2⟩ := map_block p3 ad e
   rcases hW1 a0 h1 with ⟨a1, h3, h4⟩ | h3
   ·exact .inl (by rw [h2, h4]; exact g2 a1 (.inl h3))
   ·exact .inr (by rw [h2]; exact h3)
  have hLb : ∀ ad, L' = some ad → ad.block ∈ G ∨ w.heap.size ≤ ad.block := fun ad e => by
   rcases p4 ad e with ⟨a0, h1, h2⟩ | ⟨a0, h1, h2⟩ | h1
   ·exact .inl (by rw [h2]; exact g2 a0 (.inr h1))
   ·rcases hW1 a0 h1 with ⟨a1, h3, h4⟩ | h3
    ·exact .inl (by rw [h2, h4]; exact g2 a1 (.inl h3))
    ·exact .inr (by rw [h2]; exact h3)
   ·exact .inr (Nat.le_trans hT2.size h1)
  refine ⟨A', n', c', G ++ (W'.map Addr.block).toList ++ (L'.map Addr.block).toList, rfl, ?_, .inl ⟨HH.out.2.2.2.2.2.2.2.2.2.2.2.2.2, x, W', m', cw', L', nl', cl', ⟨rfl, HH.out.2.2.2.2.2.2.2.2.1, HH.out.2.2.2.2.2.2.2.2.2.1, HXK, HXR, p2, ⟨by simp [g1.1], by simp [g1.2.1], by simp [g1.2.2]⟩, fun ad e => ?_⟩⟩, ?_, fun y hy => ?_, fun y hy => ?_, fun g hg hm => ?_, ?_⟩
  ·rw [HH.out.2.2.2.2.2.1, HH.out.2.2.2.2.2.1, e1, drop_front]
   exact p1.mono hT2.size
  ·rcases e with e | e <;> rw [e] <;> simp
  ·refine (hT2.trans p5 (fun y hy => .inl (by simp at hy; simp [hy]))).more (fun y hy => ?_)
   simp only [List.mem_cons] at hy
   rcases hy with rfl | hy
   ·exact g1.1
   ·cases W with
    | none => simp at hy
    | some ad => simp at hy; rw [hy]; exact g2 ad (.inl rfl)
  ·simp only [List.mem_append] at hy
   rcases hy with (hy | hy) | hy
   ·exact .inl hy
   ·cases W' with
    | none => simp at hy
    | some ad => simp at hy; rw [hy]; exact hWb ad rfl
   ·cases L' with
    | none => simp at hy
    | some ad => simp at hy; rw [hy]; exact hLb ad rfl
  ·simp only [List.mem_append] at hy
   rcases hy with (hy | hy) | hy
   ·have := hGl y hy; have := hT2.size; have := p5.size; omega
   ·cases W' with
    | none => simp at hy
    | some ad => simp at hy; rw [hy]; exact p2.wait.rd.lt ad rfl
   ·cases L' with
    | none => simp at hy
    | some ad => simp at hy; rw [hy]; exact p2.bkc.last.lt ad rfl
  ·simp only [List.mem_append] at hm
   have hge := (p1.lt hg).1
   rcases hm with (hm | hm) | hm
   ·have := hGl g hm; have := hT2.size; omega
   ·cases hW : W' with
    | none => rw [hW] at hm; simp at hm
    | some ad =>
     rw [hW] at hm; simp at hm
     obtain ⟨a0, h1, h2⟩ := map_block p3 ad hW
     have := H1.out.1.wait.rd.lt a0 h1
     rw [hw2] at this
     omega
   ·cases hL : L' with
    | none => rw [hL] at hm; simp at hm
    | some ad =>
     rw [hL] at hm; simp at hm
     exact p6 ad hL (by rw [hg, hm])
  ·have h1 := HH.out.2.2.1
   have h2 := HH.out.2.2.2.1
   simp only [List.length_append, List.length_drop] at hlen
   omega
 have HF := Lib.hid hfin
 have HB := Lib.hid (And.intro hbk hpad)
 clear hbk hT2 hpad hW1 hfin hw2 hGl
 go_wp2_with fail
 refine HB.out.2.mono ?_
 rintro e w3 ⟨rfl, rfl⟩
 cases hq : (decide (x.mode = 3) && !x.enc) with
 | true =>
  have hcall := blocks_any_q x 1 A1 n1 c1 _ L nl cl _ w2 HB.out.1 (by omega) hn1
  have hk1 : s.keep = 1 := by rw [HH.out.2.2.2.2.2.2.2.2.2.2.2.2.1, hq]; rfl
  have HC := Lib.hid (And.intro hcall hk1)
  clear hcall hk1 hq
  go_wp2_with fail
  refine HC.out.1.mono ?_
  intro e w4 hpost
  rw [← HC.out.2] at hpost
  have hres := HF.out e w4 hpost
  obtain ⟨A5, n5, c5, G5, rfl, r1, r2, r3, r4⟩ := hres
  have HR := Lib.hid (And.intro r1 (And.intro r2 (And.intro r3 r4)))
  clear hpost r1 r2 r3 r4
  go_wp2_with fail
  go_ret
  exact ⟨A5, n5, c5, G5, rfl, HR.out.1, HR.out.2.1, HR.out.2.2.1, HR.out.2.2.2⟩
 | false =>
  have hcall := blocks_any_q x 0 A1 n1 c1 _ L nl cl _ w2 HB.out.1 (by omega) hn1
  have hk1 : s.keep = 0 := by rw [HH.out.2.2.2.2.2.2.2.2.2.2.2.2.1, hq]; rfl
  have HC := Lib.hid (And.intro hcall hk1)
  clear hcall hk1 hq
  go_wp2_with fail
  refine HC.out.1.mono ?_
  intro e w4 hpost
  rw [← HC.out.2] at hpost
  have hres := HF.out e w4 hpost
  obtain ⟨A5, n5, c5, G5, rfl, r1, r2, r3, r4⟩ := hres
  have HR := Lib.hid (And.intro r1 (And.intro r2 (And.intro r3 r4)))
  clear hpost r1 r2 r3 r4
  go_wp2_with fail
  go_ret
  exact ⟨A5, n5, c5, G5, rfl, HR.out.1, HR.out.2.1, HR.out.2.2.1, HR.out.2.2.2⟩
section
variable {w w1 w' : World} {x : GX} {W P M D O : Vw} {ctr : List UInt8}
theorem GcAt.cells (h : GcAt w x W ctr P M D O) : Blk w x.d 139 (stG x W.v P.v M.v D.v O.v false) := h.cnt.blk
theorem GcAt.noB (h : GcAt w x W ctr P M D O) : NoB w x.d := NoB.of h.cells rfl
theorem GcAt.below (h : GcAt w x W ctr P M D O) (hb : Old w w') : GcAt w' x W ctr P M D O := ⟨h.cnt.below hb, h.wait.below hb, Rd.below h.mask hb, h.m16, Rd.below h.data hb, h.out.below hb, h.sg, h.sw, h.aw, h.ao⟩
theorem GcAt.count (h : GcAt w x W ctr P M D O) (hT : Turn [x.d, x.gc] w w') {ctr' : List UInt8} {P' : Vw} (hC : CntAt w' (x.cx W.v M.v D.v O.v) ctr' P'.A P'.n P'.c P'.l)
  (hP : ∀ ad, P'.A = some ad → (∃ ad0, P.A = some ad0 ∧ ad.block = ad0.block) ∨ w.heap.size ≤ ad.block) : GcAt w' x W ctr' P' M D O := by
 have hN := h.noB
 have hW : ∀ ad, W.A = some ad → ad.block ∉ [x.d, x.gc] := fun ad e => by simp; exact ⟨(h.sw ad (.inl e)).1, h.sg ad (.inl e)⟩
 have hO : ∀ ad, O.A = some ad → ad.block ∉ [x.d, x.gc] := fun ad e => by simp; exact ⟨(h.sw ad (.inr e)).1, h.sg ad (.inr (.inr (.inr e)))⟩
 have hx : ∀ (V : Vw), V.rd w → (∀ ad, V.A = some ad → ad.block ≠ x.gc) → V.rd w' := fun V hV hg => Rd.turnX hV hT (fun g hm => by
  simp at hm
  rcases hm with rfl | rfl
  ·exact .inl hN
  ·exact .inr hg)
 have hOlt : ∀ ad, O.A = some ad → ad.block < w.heap.size := fun ad e => (h.out.lt (show (Value.slice O.A O.n O.c).ownBlock = some ad.block by rw [e]; rfl)).2
 have hap : ∀ (V : Option Addr), Apart V P.A → (∀ ad, V = some ad → ad.block < w.heap.size) → Apart V P'.A := fun V hV hl a b e1 e2 => by
  rcases hP b e2 with ⟨a0, e3, e4⟩ | h1
  ·rw [e4]; exact hV a a0 e1 e3
  ·have := hl a e1; omega
 exact ⟨hC, h.wait.turn hT hW, hx M h.mask (fun ad e => h.sg ad (.inr (.inl e))), h.m16, hx D h.data (fun ad e => h.sg ad (.inr (.inr (.inl e)))), h.out.turn hT (fun g hg hm => by
   cases hA : O.A with
   | none => rw [Vw.v, hA] at hg; simp [Value.ownBlock] at hg
   | some ad => rw [Vw.v, hA] at hg; simp [Value.ownBlock] at hg; subst hg; exact hO ad hA hm),
  h.sg, h.sw, ⟨hap _ h.aw.1 (fun ad e => h.wait.rd.lt ad e), h.aw.2⟩, ⟨hap _ h.ao.1 hOlt, h.ao.2⟩⟩
theorem GcAt.growW (h : GcAt w x W ctr P M D O) (hO : O = nilW) {A : Option Addr} {n c : Nat} {l : List UInt8} (hG : GrewO 0 w w1 W.A W.n W.c A n c l) :
  GcAt (w1.setCell ⟨x.d, 4, none⟩ (.slice A n c)) x ⟨A, n, c, l⟩ ctr P M D O ∧ Blk w1 x.d 139 (stG x W.v P.v M.v D.v O.v false) := by
 subst hO
 have hcl : x.c < w.heap.size ∧ x.K < w.heap.size := h.cnt.cip.lt
 have hdl : x.d < w.heap.size := h.cells.lt
 have hgl : x.gc < w.heap.size := h.cnt.ctr.lt
 have hnot : ∀ g, (∀ ad, W.A = some ad → ad.block ≠ g) → g ∉ (W.A.map Addr.block).toList := fun g hg hm => by
  cases hA : W.A with
  | none => rw [hA] at hm; simp at hm
  | some ad => rw [hA] at hm; simp at hm; exact hg ad hA hm.symm
 have hA : ∀ ad, A = some ad → W.A = some ad ∨ ad.block = w.heap.size := fun ad e => by
  rcases hG.at_ with ⟨h1, h2⟩ | h1
  ·exact .inl (by rw [← h1]; exact e)
  ·rw [e] at h1; exact .inr (by simpa using h1)
 have hB1 := h.cells.turn hG.turn (hnot _ (fun ad e => (h.sw ad (.inl e)).1))
 have hN1 := NoB.of hB1 rfl
 have hT : Turn [x.d] w1 (w1.setCell ⟨x.d, 4, none⟩ (.slice A n c)) := turn_put
 have hcip1 := h.cnt.cip.turn hG.turn (hnot _ (fun ad e => (h.sw ad (.inl e)).2.1)) (hnot _ (fun ad e => (h.sw ad (.inl e)).2.2))
 have hctr1 := h.cnt.ctr.turn hG.turn (hnot _ (fun ad e => h.sg ad (.inl e)))
 have hrd : ∀ (V : Vw), V.rd w → Apart W.A V.A → V.rd (w1.setCell ⟨x.d, 4, none⟩ (.slice A n c)) := fun V hV ha => by
  have h1 : Rd w1 V.A V.n V.c V.l := Rd.turn hV hG.turn (fun ad e => hnot _ (fun ad2 e2 => ha ad2 ad e2 e))
  exact h1.turnB hT (fun g hg => by simp at hg; subst hg; exact hN1)
 have hlt : ∀ (V : Vw), V.rd w → ∀ ad, V.A = some ad → ad.block < w.heap.size := fun V hV ad e => Rd.lt hV ad e
 have hap : ∀ (V : Vw), V.rd w → Apart W.A V.A → Apart A V.A := fun V hV ha a b e1 e2 => by
  rcases hA a e1 with h1 | h1
  ·exact ha a b h1 e2
  ·have := hlt V hV b e2; omega
 refine ⟨⟨⟨⟨rfl, rfl, rfl, rfl, h.cnt.ok.cc16, h.cnt.ok.ccm, h.cnt.ok.wd1, h.cnt.ok.ne1, h.cnt.ok.ne2, rfl⟩, hB1.set_ 4 _, hcip1.turn hT (by simp; exact (hcip1.nd hB1 hN1).1) (by simp; exact (hcip1.nd hB1 hN1).2), hctr1.turn hT (by simp; exact h.cnt.dgc.symm), hrd P h.cnt.pad h.aw.1, h.cnt.ne⟩,
  hG.own.turn hT (fun ad e => ?_), hrd M h.mask h.aw.2.1, h.m16, hrd D h.data h.aw.2.2.1, Own.nil _ _, fun ad e => ?_, fun ad e => ?_, ⟨hap P h.cnt.pad h.aw.1, hap M h.mask h.aw.2.1, hap D h.data h.aw.2.2.1, Apart.none_r _⟩, h.ao⟩, hB1⟩
 ·simp
  rcases hA ad e with h1 | h1
  ·exact (h.sw ad (.inl h1)).1
  ·omega
 ·rcases e with e | e
  ·rcases hA ad e with h1 | h1
   ·exact h.sg ad (.inl h1)
   ·omega
  ·exact h.sg ad (.inr e)
 ·rcases e with e | e
  ·rcases hA ad e with h1 | h1
   ·exact h.sw ad (.inl h1)
   ·exact ⟨by omega, by omega, by omega⟩
  ·cases e
theorem GcAt.growO (h : GcAt w x W ctr P M D O) (hW : W = nilW) {A : Option Addr} {n c : Nat} {l : List UInt8} (hG : Grew 0 w w1 O.v A n c l) :
  GcAt (w1.setCell ⟨x.d, 10, none⟩ (.slice A n c)) x W ctr P M D ⟨A, n, c, l⟩ ∧ Blk w1 x.d 139 (stG x W.v P.v M.v D.v O.v false) := by
 subst hW
 have hcl : x.c < w.heap.size ∧ x.K < w.heap.size := h.cnt.cip.lt
 have hdl : x.d < w.heap.size := h.cells.lt
 have hgl : x.gc < w.heap.size := h.cnt.ctr.lt
 have hTo : Turn O.v.ownBlock.toList w w1 := Turn.of_grown hG.grown
 have hob : ∀ g, O.v.ownBlock = some g → ∃ ad, O.A = some ad ∧ ad.block = g := fun g hg => by
  cases hA : O.A with
  | none => rw [Vw.v, hA] at hg; simp [Value.ownBlock] at hg
  | some ad => rw [Vw.v, hA] at hg; simp [Value.ownBlock] at hg; exact ⟨ad, rfl, hg⟩
 have hnot : ∀ g, (∀ ad, O.A = some ad → ad.block ≠ g) → g ∉ O.v.ownBlock.toList := fun g hg hm => by
  obtain ⟨ad, e1, e2⟩ := hob g (by simpa using hm)
  exact hg ad e1 e2
 have hA : ∀ ad, A = some ad → (∃ a0, O.A = some a0 ∧ ad.block = a0.block) ∨ ad.block = w.heap.size := fun ad e => by
  rcases hG.at_ with h1 | h1
  ·rw [e] at h1
   obtain ⟨a0, e1, e2⟩ := hob ad.block h1.symm
   exact .inl ⟨a0, e1, e2.symm⟩
  ·rw [e] at h1; exact .inr (by simpa [Value.ownBlock] using h1)
 have hB1 := h.cells.turn hTo (hnot _ (fun ad e => (h.sw ad (.inr e)).1))
 have hN1 := NoB.of hB1 rfl
 have hT : Turn [x.d] w1 (w1.setCell ⟨x.d, 10, none⟩ (.slice A n c)) := turn_put
 have hcip1 := h.cnt.cip.turn hTo (hnot _ (fun ad e => (h.sw ad (.inr e)).2.1)) (hnot _ (fun ad e => (h.sw ad (.inr e)).2.2))
 have hctr1 := h.cnt.ctr.turn hTo (hnot _ (fun ad e => h.sg ad (.inr (.inr (.inr e)))))
 have hrd : ∀ (V : Vw), V.rd w → Apart O.A V.A → V.rd (w1.setCell ⟨x.d, 10, none⟩ (.slice A n c)) := fun V hV ha => by
  have h1 : Rd w1 V.A V.n V.c V.l := Rd.turn hV hTo (fun ad e => hnot _ (fun ad2 e2 => ha ad2 ad e2 e))
  exact h1.turnB hT (fun g hg => by simp at hg; subst hg; exact hN1)
 have hap : ∀ (V : Vw), V.rd w → Apart O.A V.A → Apart A V.A := fun V hV ha a b e1 e2 => by
  rcases hA a e1 with ⟨a0, h1, h2⟩ | h1
  ·rw [h2]; exact ha a0 b h1 e2
  ·have := Rd.lt hV b e2; omega
 have hne : ∀ ad, A = some ad → ad.block ≠ x.d ∧ ad.block ≠ x.c ∧ ad.block ≠ x.K ∧ ad.block ≠ x.gc := fun ad e => by
  rcases hA ad e with ⟨a0, h1, h2⟩ | h1
  ·rw [h2]
   have := h.sw a0 (.inr h1)
   exact ⟨this.1, this.2.1, this.2.2, h.sg a0 (.inr (.inr (.inr h1)))⟩
  ·exact ⟨by omega, by omega, by omega, by omega⟩
 refine ⟨⟨⟨⟨rfl, rfl, rfl, rfl, h.cnt.ok.cc16, h.cnt.ok.ccm, h.cnt.ok.wd1, h.cnt.ok.ne1, h.cnt.ok.ne2, rfl⟩, hB1.set_ 10 _, hcip1.turn hT (by simp; exact (hcip1.nd hB1 hN1).1) (by simp; exact (hcip1.nd hB1 hN1).2), hctr1.turn hT (by simp; exact h.cnt.dgc.symm), hrd P h.cnt.pad h.ao.1, h.cnt.ne⟩,
  OwnO.nil _ _, hrd M h.mask h.ao.2.1, h.m16, hrd D h.data h.ao.2.2, hG.own.turn hT (fun g hg hm => ?_), fun ad e => ?_, fun ad e => ?_, ⟨Apart.none_l _, Apart.none_l _, Apart.none_l _, Apart.none_l _⟩, ⟨hap P h.cnt.pad h.ao.1, hap M h.mask h.ao.2.1, hap D h.data h.ao.2.2⟩⟩, hB1⟩
 ·simp at hm
  subst hm
  exact (hG.own.notin (Blk.noRow hB1 (by decide))) hg
 ·rcases e with e | e | e | e
  ·cases e
  ·exact h.sg ad (.inr (.inl e))
  ·exact h.sg ad (.inr (.inr (.inl e)))
  ·exact (hne ad e).2.2.2
 ·rcases e with e | e
  ·cases e
  ·exact ⟨(hne ad e).1, (hne ad e).2.1, (hne ad e).2.2.1⟩
end
theorem cnt1_le (E : List UInt8 → List UInt8) (wd : Nat) : ∀ (a pad ctr : List UInt8), (cnt1 E wd a pad ctr).1.length ≤ a.length
 | [], pad, ctr => Nat.le_refl _
 | x :: a, y :: pad, ctr => by have := cnt1_le E wd a pad ctr; simp [cnt1]; omega
 | x :: a, [], ctr => by
  cases h : E ctr with
  | nil => simp [cnt1, h]
  | cons y p => have := cnt1_le E wd a p (stepL wd ctr); simp [cnt1, h]; omega
theorem StrG.E {w : World} {G : List Nat} {d : Nat} {s : StmS} {wl ctr pl ol : List UInt8} {x : GX} {W P M D O : Vw} (h : StrG w G d s wl ctr pl ol x W P M D O) : encL x.ks x.R = s.E := by unfold StmS.E; rw [h.xk, h.xr]
theorem StmS.cn_add {w : World} {G : List Nat} {d : Nat} {s : StmS} {wl ctr pl ol : List UInt8} {x : GX} {W P M D O : Vw} (h : StrG w G d s wl ctr pl ol x W P M D O) (hc0 : s.c0.length = 16) (all b : List UInt8) :
  s.cn (all ++ b) = ((s.cn all).1 ++ (cnt1 s.E s.wd b (s.cn all).2.1 (s.cn all).2.2).1, (cnt1 s.E s.wd b (s.cn all).2.1 (s.cn all).2.2).2) := by
 unfold StmS.cn
 refine cnt1_append s.E s.wd (fun l hl e => ?_) all b [] s.c0 hc0
 have h1 : (s.E l).length = 16 := enc_ne s.ks s.R l hl (by rw [← h.xk, ← h.xr]; exact h.gc.cnt.cip.2.2.2.2.2.1)
 rw [e] at h1
 cases h1
theorem gblk {P : Vw} {G : List Nat} {y : Nat} (h : y ∈ G ++ (P.A.map Addr.block).toList) : y ∈ G ∨ ∃ ad, P.A = some ad ∧ y = ad.block := by
 rcases List.mem_append.1 h with h | h
 ·exact .inl h
 ·exact .inr (vblk_of h)
set_option maxHeartbeats 2000000 in
theorem updC_any (G : List Nat) (d : Nat) (s : StmS) (all : List UInt8) (x : GX) (W P M D O : Vw) (A : Option Addr) (n c : Nat) (b : List UInt8) (w : World) (h : StrG w G d s [] (s.cn all).2.2 (s.cn all).2.1 [] x W P M D O) (hm : s.mode = 4) (hc0 : s.c0.length = 16) (hr : Rd w A n c b) (hA : ∀ ad, A = some ad → ad.block ∉ G) (hGl : ∀ x ∈ G, x < w.heap.size) (hn : n ≤ 100000) :
  Calls Tryz.prog 74 #[.pointer (some ⟨d, 0, none⟩), .slice A n c] w (UpdRes w G d s all b) := by
 have hE := h.E
 have hadd := StmS.cn_add h hc0 all b
 obtain ⟨xd, xm, xe, xk, xr, xw, gc, wl, pl, ol, md, wn, on, g1, g2⟩ := h
 subst xd
 have y0 := gc.cells.cell 0
 have y11 : w.cell? ⟨x.d, 11, none⟩ = some (.bool false) := gc.cells.cell 11
 simp only [stG, List.getElem?_toArray, List.getElem?_cons_zero] at y0
 rw [xm, hm, show ((4 : Nat) : Int) = 4 from rfl] at y0
 have hcall := count_any_q (x.cx W.v M.v D.v O.v) (s.cn all).2.2 P.A P.n P.c P.l A n c b w gc.cnt hr (fun ad e => fun e2 => hA ad e (by rw [e2]; exact g1.2.2.2)) hn
 rw [show (x.cx W.v M.v D.v O.v).d = x.d from rfl, show (x.cx W.v M.v D.v O.v).gc = x.gc from rfl, show (x.cx W.v M.v D.v O.v).ks = x.ks from rfl, show (x.cx W.v M.v D.v O.v).R = x.R from rfl, show (x.cx W.v M.v D.v O.v).wd = x.wd from rfl, hE, xw, pl] at hcall
 have HH := Lib.hid (And.intro hcall (And.intro hadd (And.intro gc (And.intro g1 (And.intro g2 hm)))))
 clear hcall hadd gc g1 g2 hm hr
 go_enter Tryz.func74, Tryz.ntmps74
 go_wp2_with fail
 refine HH.out.1.mono ?_
 rintro e w1 ⟨A1, n1, c1, P1, np1, q1, rfl, ho, hC, hP, hT, hpo⟩
 have HPo := Lib.hid (And.intro hpo hGl)
 clear hpo hGl
 have HR := Lib.hid (And.intro ho (And.intro hC (And.intro hP hT)))
 clear ho hC hP hT
 go_wp2_with fail
 go_ret
 have hf : ∀ l, s.front l = (s.cn l).1 := fun l => by unfold StmS.front; rw [if_pos HH.out.2.2.2.2.2]
 have hgc := HH.out.2.2.1.count (P' := ⟨P1, np1, q1, (cnt1 s.E s.wd b (s.cn all).2.1 (s.cn all).2.2).2.1⟩) HR.out.2.2.2 HR.out.2.1 HR.out.2.2.1
 have e1 := congrArg Prod.fst HH.out.2.1
 have e2 := congrArg (fun t => t.2.1) HH.out.2.1
 have e3 := congrArg (fun t => t.2.2) HH.out.2.1
 simp only at e1 e2 e3
 refine ⟨A1, n1, c1, G ++ (P1.map Addr.block).toList, rfl, ?_, .inr (.inl ⟨HH.out.2.2.2.2.2, x, W, _, M, D, O, ⟨rfl, xm, xe, xk, xr, xw, (by rw [e3]; exact hgc), wl, e2.symm, ol, md, wn, on, ?_, fun ad e => ?_⟩⟩), HR.out.2.2.2.more (fun y hy => ?_), fun y hy => ?_, fun y hy => ?_, fun g hg hm2 => ?_, ?_⟩
 ·rw [hf, hf, e1, drop_front]; exact HR.out.1
 ·have := HH.out.2.2.2.1
  exact ⟨by simp [this.1], by simp [this.2.1], by simp [this.2.2.1], by simp [this.2.2.2]⟩
 ·rcases e with e | e | e | e | e
  ·exact List.mem_append.2 (.inl (HH.out.2.2.2.2.1 ad (.inl e)))
  ·simp only at e; rw [e]; simp
  ·exact List.mem_append.2 (.inl (HH.out.2.2.2.2.1 ad (.inr (.inr (.inl e)))))
  ·exact List.mem_append.2 (.inl (HH.out.2.2.2.2.1 ad (.inr (.inr (.inr (.inl e))))))
  ·exact List.mem_append.2 (.inl (HH.out.2.2.2.2.1 ad (.inr (.inr (.inr (.inr e))))))
 ·simp at hy
  rcases hy with rfl | rfl
  ·exact HH.out.2.2.2.1.1
  ·exact HH.out.2.2.2.1.2.2.2
 ·rcases gblk (P := ⟨P1, 0, 0, []⟩) hy with hy | ⟨ad, h1, h2⟩
  ·exact .inl hy
  ·rcases HR.out.2.2.1 ad h1 with ⟨a0, h3, h4⟩ | h3
   ·exact .inl (by rw [h2, h4]; exact HH.out.2.2.2.2.1 a0 (.inr (.inl h3)))
   ·exact .inr (by rw [h2]; exact h3)
 ·rcases gblk (P := ⟨P1, 0, 0, []⟩) hy with hy | ⟨ad, h1, h2⟩
  ·have := HPo.out.2 y hy; have := HR.out.2.2.2.size; omega
  ·rw [h2]; exact HR.out.2.1.pad.lt ad h1
 ·rcases gblk (P := ⟨P1, 0, 0, []⟩) hm2 with hy | ⟨ad, h1, h2⟩
  ·have := HPo.out.2 g hy; have := (HR.out.1.lt hg).1; omega
  ·exact HPo.out.1 ad h1 (by rw [hg, h2])
 ·have := HR.out.1.len; have := cnt1_le s.E s.wd b (s.cn all).2.1 (s.cn all).2.2; omega
set_option maxHeartbeats 2000000 in
theorem updE_any (G : List Nat) (d : Nat) (s : StmS) (all : List UInt8) (x : GX) (W P M D O : Vw) (A : Option Addr) (n c : Nat) (b : List UInt8) (w : World) (h : StrG w G d s [] (s.cn all).2.2 (s.cn all).2.1 (s.cn all).1 x W P M D O) (hm : s.mode = 5) (he : s.enc = true) (hc0 : s.c0.length = 16) (hr : Rd w A n c b) (hA : ∀ ad, A = some ad → ad.block ∉ G) (hGl : ∀ x ∈ G, x < w.heap.size) (hn : all.length + n ≤ 100000) :
  Calls Tryz.prog 74 #[.pointer (some ⟨d, 0, none⟩), .slice A n c] w (UpdRes w G d s all b) := by
 have hE := h.E
 have hadd := StmS.cn_add h hc0 all b
 have hlen : ∀ l pad ctr : List UInt8, ctr.length = 16 → (cnt1 s.E s.wd l pad ctr).1.length = l.length ∧ (cnt1 s.E s.wd l pad ctr).2.2.length = 16 := fun l pad ctr hl => cnt1_len s.E s.wd (fun l hl e => by
  have h1 : (s.E l).length = 16 := enc_ne s.ks s.R l hl (by rw [← h.xk, ← h.xr]; exact h.gc.cnt.cip.2.2.2.2.2.1)
  rw [e] at h1
  cases h1) l pad ctr hl
 have hWn := h.wn (.inr he)
 obtain ⟨xd, xm, xe, xk, xr, xw, gc, wl, pl, ol, md, wn, on, g1, g2⟩ := h
 subst xd
 have y0 := gc.cells.cell 0
 have y1 := gc.cells.cell 1
 have y11 : w.cell? ⟨x.d, 11, none⟩ = some (.bool false) := gc.cells.cell 11
 simp only [stG, List.getElem?_toArray, List.getElem?_cons_zero, List.getElem?_cons_succ] at y0 y1
 rw [xm, hm, show ((5 : Nat) : Int) = 5 from rfl] at y0
 rw [xe, he] at y1
 have hcall := count_any_q (x.cx W.v M.v D.v O.v) (s.cn all).2.2 P.A P.n P.c P.l A n c b w gc.cnt hr (fun ad e => fun e2 => hA ad e (by rw [e2]; exact g1.2.2.2)) (by omega)
 rw [show (x.cx W.v M.v D.v O.v).d = x.d from rfl, show (x.cx W.v M.v D.v O.v).gc = x.gc from rfl, show (x.cx W.v M.v D.v O.v).ks = x.ks from rfl, show (x.cx W.v M.v D.v O.v).R = x.R from rfl, show (x.cx W.v M.v D.v O.v).wd = x.wd from rfl, hE, xw, pl] at hcall
 have hl1 := (hlen all [] s.c0 hc0).1
 have hl2 := (hlen b (s.cn all).2.1 (s.cn all).2.2 (hlen all [] s.c0 hc0).2).1
 have hbl := hr.1
 have HH := Lib.hid (And.intro hcall (And.intro hadd (And.intro gc (And.intro g1 (And.intro g2 (And.intro hm (And.intro he (And.intro hl1 (And.intro hl2 hbl)))))))))
 clear hcall hadd gc g1 g2 hm hr he hlen hl1 hl2 hbl
 go_enter Tryz.func74, Tryz.ntmps74
 go_wp2_with fail
 refine HH.out.1.mono ?_
 rintro e w1 ⟨A1, n1, c1, P1, np1, q1, rfl, ho, hC, hP, hT, hpo⟩
 have HPo := Lib.hid (And.intro hpo hGl)
 clear hpo hGl
 have hgc := HH.out.2.2.1.count (P' := ⟨P1, np1, q1, (cnt1 s.E s.wd b (s.cn all).2.1 (s.cn all).2.2).2.1⟩) hT hC hP
 have y10 : w1.cell? ⟨x.d, 10, none⟩ = some (.slice O.A O.n O.c) := hgc.cells.cell 10
 have HR := Lib.hid (And.intro ho (And.intro hgc (And.intro hP hT)))
 clear ho hC hP hT hgc
 go_wp2_with (at_builtin; refine wp_app2 (.tmp 46) (.tmp 47) 0 O.v O.l HR.out.2.1.out (Nat.zero_le _) A1 n1 c1 _ HR.out.1.rd (by have h1 := HH.out.2.2.2.2.2.2.2.1; have h2 := HH.out.2.2.2.2.2.2.2.2.1; have h3 := HH.out.2.2.2.2.2.2.2.2.2; have h4 : O.l.length = (cnt1 s.E s.wd all [] s.c0).1.length := congrArg List.length ol; omega) rfl rfl rfl rfl ?_; intro A5 n5 c5 w2 hn5 hG; obtain ⟨hg2, hb2⟩ := HR.out.2.1.growO hWn hG; have z10 := hb2.cell 10; have f10 := hb2.frozen 10; simp only [stG, List.getElem?_toArray, List.getElem?_cons_zero, List.getElem?_cons_succ] at z10; have H2 := Lib.hid (And.intro hg2 hG); clear hg2 hb2 hG)
 go_ret
 have hf : ∀ l, s.front l = (s.cn l).1 := fun l => by unfold StmS.front; rw [if_neg (by rw [HH.out.2.2.2.2.2.1]; decide), if_pos HH.out.2.2.2.2.2.1, if_pos HH.out.2.2.2.2.2.2.1]
 have e1 := congrArg Prod.fst HH.out.2.1
 have e2 := congrArg (fun t => t.2.1) HH.out.2.1
 have e3 := congrArg (fun t => t.2.2) HH.out.2.1
 simp only at e1 e2 e3
 have hT2 : Turn O.v.ownBlock.toList w1 w2 := Turn.of_grown H2.out.2.grown
 have hob : ∀ g, O.v.ownBlock = some g → g ∈ G ∧ g < w.heap.size := fun g hg => by
  refine ⟨?_, (HH.out.2.2.1.out.lt hg).2⟩
  cases hA : O.A with
  | none => rw [Vw.v, hA] at hg; simp [Value.ownBlock] at hg
  | some ad => rw [Vw.v, hA] at hg; simp [Value.ownBlock] at hg; subst hg; exact HH.out.2.2.2.2.1 ad (.inr (.inr (.inr (.inr hA))))
 have hTd : Turn [x.d] w2 (w2.setCell ⟨x.d, 10, none⟩ (.slice A5 n5 c5)) := turn_put
 have hNr : NoRow w2 x.d := fun cs hcs => by
  have h9 := HR.out.2.1.cells
  have h8 : Blk w2 x.d 139 _ := h9.turn hT2 (fun hm => by
   have := hob x.d (by simpa using hm)
   obtain ⟨ad, e4, e5⟩ : ∃ ad, O.A = some ad ∧ ad.block = x.d := by
    have hg : O.v.ownBlock = some x.d := by simpa using hm
    cases hA : O.A with
    | none => rw [Vw.v, hA] at hg; simp [Value.ownBlock] at hg
    | some ad => rw [Vw.v, hA] at hg; simp [Value.ownBlock] at hg; exact ⟨ad, rfl, hg⟩
   exact (HH.out.2.2.1.sw ad (.inr e4)).1 e5)
  exact Blk.noRow h8 (by decide) cs hcs
 have ho2 : Own w2 w.heap.size (.slice A1 n1 c1) (cnt1 s.E s.wd b (s.cn all).2.1 (s.cn all).2.2).1 := HR.out.1.turn hT2 (fun g hg hm => by
  have h1 := (HR.out.1.lt hg).1
  have h2 := (hob g (by simpa using hm)).2
  omega)
 have hTall : Turn G w (w2.setCell ⟨x.d, 10, none⟩ (.slice A5 n5 c5)) := ((HR.out.2.2.2.more (S' := G) (fun y hy => by
   simp at hy
   rcases hy with rfl | rfl
   ·exact HH.out.2.2.2.1.1
   ·exact HH.out.2.2.2.1.2.2.2)).trans hT2 (fun y hy => .inl (hob y (by simpa using hy)).1)).trans hTd (fun y hy => .inl (by simp at hy; subst hy; exact HH.out.2.2.2.1.1))
 have h5 : ∀ ad, A5 = some ad → ad.block ∈ G ∨ w.heap.size ≤ ad.block := fun ad e => by
  rcases H2.out.2.at_ with h1 | h1
  ·rw [e] at h1; exact .inl (hob ad.block h1.symm).1
  ·rw [e] at h1; right; simp [Value.ownBlock] at h1; have := HR.out.2.2.2.size; omega
 refine ⟨A1, n1, c1, G ++ (P1.map Addr.block).toList ++ (A5.map Addr.block).toList, rfl, ?_, .inr (.inr (.inl ⟨HH.out.2.2.2.2.2.1, HH.out.2.2.2.2.2.2.1, x, W, _, M, D, _, ⟨rfl, xm, xe, xk, xr, xw, (by rw [e3]; exact H2.out.1), wl, e2.symm, ?_, md, wn, fun h => ?_, ?_, fun ad e => ?_⟩⟩)), hTall, fun y hy => ?_, fun y hy => ?_, fun g hg hm2 => ?_, ?_⟩
 ·rw [hf, hf, e1, drop_front]
  exact ho2.turn hTd (fun g hg hm => by simp at hm; subst hm; exact (ho2.notin hNr) hg)
 ·rw [e1, ← ol]
 ·rcases h with h | h
  ·rw [HH.out.2.2.2.2.2.1] at h; cases h
  ·rw [HH.out.2.2.2.2.2.2.1] at h; cases h
 ·have := HH.out.2.2.2.1
  exact ⟨by simp [this.1], by simp [this.2.1], by simp [this.2.2.1], by simp [this.2.2.2]⟩
 ·rcases e with e | e | e | e | e
  ·exact List.mem_append.2 (.inl (List.mem_append.2 (.inl (HH.out.2.2.2.2.1 ad (.inl e)))))
  ·simp only at e; rw [e]; simp
  ·exact List.mem_append.2 (.inl (List.mem_append.2 (.inl (HH.out.2.2.2.2.1 ad (.inr (.inr (.inl e)))))))
  ·exact List.mem_append.2 (.inl (List.mem_append.2 (.inl (HH.out.2.2.2.2.1 ad (.inr (.inr (.inr (.inl e))))))))
  ·simp only at e; rw [e]; simp
 ·rcases gblk (P := ⟨A5, 0, 0, []⟩) hy with hy | ⟨ad, h1, h2⟩
  ·rcases gblk (P := ⟨P1, 0, 0, []⟩) hy with hy | ⟨ad, h1, h2⟩
   ·exact .inl hy
   ·rcases HR.out.2.2.1 ad h1 with ⟨a0, h3, h4⟩ | h3
    ·exact .inl (by rw [h2, h4]; exact HH.out.2.2.2.2.1 a0 (.inr (.inl h3)))
    ·exact .inr (by rw [h2]; exact h3)
  ·rw [h2]; exact h5 ad h1
 ·have hs := hTall.size
  have hs2 := hTd.size
  have hs3 := hT2.size
  rcases gblk (P := ⟨A5, 0, 0, []⟩) hy with hy | ⟨ad, h1, h2⟩
  ·rcases gblk (P := ⟨P1, 0, 0, []⟩) hy with hy | ⟨ad, h1, h2⟩
   ·have := HPo.out.2 y hy; omega
   ·have := Rd.lt HR.out.2.1.cnt.pad ad h1; rw [h2]; omega
  ·have := H2.out.2.own.rd.lt ad h1; rw [h2]; omega
 ·have hge := HR.out.1.lt hg
  rcases gblk (P := ⟨A5, 0, 0, []⟩) hm2 with hy | ⟨ad, h1, h2⟩
  ·rcases gblk (P := ⟨P1, 0, 0, []⟩) hy with hy | ⟨ad, h1, h2⟩
   ·have := HPo.out.2 g hy; omega
   ·exact HPo.out.1 ad h1 (by rw [hg, h2])
  ·simp only at h1
   rcases H2.out.2.at_ with h3 | h3
   ·rw [h1] at h3
    have := (hob ad.block h3.symm).2
    omega
   ·rw [h1] at h3
    simp [Value.ownBlock] at h3
    omega
 ·have := HR.out.1.len; have := cnt1_le s.E s.wd b (s.cn all).2.1 (s.cn all).2.2; omega
theorem updD_any (G : List Nat) (d : Nat) (s : StmS) (all : List UInt8) (x : GX) (W P M D O : Vw) (A : Option Addr) (n c : Nat) (b : List UInt8) (w : World) (h : StrG w G d s all s.c0 [] [] x W P M D O) (hm : s.mode = 5) (he : s.enc = false) (hr : Rd w A n c b) (hGl : ∀ x ∈ G, x < w.heap.size) (hn : all.length + n ≤ 100000) :
  Calls Tryz.prog 74 #[.pointer (some ⟨d, 0, none⟩), .slice A n c] w (UpdRes w G d s all b) := by
 have hOn := h.on (.inr he)
 obtain ⟨xd, xm, xe, xk, xr, xw, gc, wl, pl, ol, md, wn, on, g1, g2⟩ := h
 subst xd
 have y0 := gc.cells.cell 0
 have y1 := gc.cells.cell 1
 have y4 : w.cell? ⟨x.d, 4, none⟩ = some (.slice W.A W.n W.c) := gc.cells.cell 4
 have y11 : w.cell? ⟨x.d, 11, none⟩ = some (.bool false) := gc.cells.cell 11
 simp only [stG, List.getElem?_toArray, List.getElem?_cons_zero, List.getElem?_cons_succ] at y0 y1
 rw [xm, hm, show ((5 : Nat) : Int) = 5 from rfl] at y0
 rw [xe, he] at y1
 have hbl := hr.1
 have HH := Lib.hid (And.intro gc (And.intro g1 (And.intro g2 (And.intro hm (And.intro he (And.intro hr hbl))))))
 have HPo := Lib.hid hGl
 clear gc g1 g2 hm hr he hbl hGl
 go_enter Tryz.func74, Tryz.ntmps74
 go_wp2_with (at_builtin; refine wp_app_O (.tmp 34) (.tmp 35) 0 W.A W.n W.c W.l HH.out.1.wait (Nat.zero_le _) A n c b HH.out.2.2.2.2.2.1 (by have h1 := HH.out.2.2.2.2.2.2; have h2 : W.l.length = all.length := congrArg List.length wl; omega) rfl rfl rfl rfl ?_; intro A1 n1 c1 w1 hG; obtain ⟨hg2, hb2⟩ := HH.out.1.growW hOn hG; have z4 := hb2.cell 4; have f4 := hb2.frozen 4; simp only [stG, List.getElem?_toArray, List.getElem?_cons_zero, List.getElem?_cons_succ] at z4; have H2 := Lib.hid (And.intro hg2 hG); clear hg2 hb2 hG)
 go_ret
 have hf : ∀ l, s.front l = [] := fun l => by unfold StmS.front; rw [if_neg (by rw [HH.out.2.2.2.1]; decide), if_pos HH.out.2.2.2.1, if_neg (by rw [HH.out.2.2.2.2.1]; decide)]
 have h1 : ∀ ad, A1 = some ad → ad.block ∈ G ∨ w.heap.size ≤ ad.block := fun ad e => by
  rcases H2.out.2.at_ with ⟨h1, h2⟩ | h1
  ·exact .inl (HH.out.2.2.1 ad (.inl (by rw [← h1]; exact e)))
  ·rw [e] at h1; right; simp at h1; omega
 refine ⟨none, 0, 0, G ++ (A1.map Addr.block).toList, rfl, ?_, .inr (.inr (.inr ⟨HH.out.2.2.2.1, HH.out.2.2.2.2.1, x, _, P, M, D, O, ⟨rfl, xm, xe, xk, xr, xw, H2.out.1, ?_, pl, ol, md, fun h => ?_, on, ?_, fun ad e => ?_⟩⟩)), ?_, fun y hy => ?_, fun y hy => ?_, fun g hg hm2 => ?_, ?_⟩
 ·rw [hf, hf]; exact Own.nil _ _
 ·rw [← wl]
 ·rcases h with h | h
  ·rw [HH.out.2.2.2.1] at h; cases h
  ·rw [HH.out.2.2.2.2.1] at h; cases h
 ·have := HH.out.2.1
  exact ⟨by simp [this.1], by simp [this.2.1], by simp [this.2.2.1], by simp [this.2.2.2]⟩
 ·rcases e with e | e
  ·simp only at e; rw [e]; simp
  ·exact List.mem_append.2 (.inl (HH.out.2.2.1 ad (.inr e)))
 ·refine (H2.out.2.turn.more (fun y hy => ?_)).trans turn_put (fun y hy => .inl (by simp at hy; subst hy; exact HH.out.2.1.1))
  cases hA : W.A with
  | none => rw [hA] at hy; simp at hy
  | some ad => rw [hA] at hy; simp at hy; rw [hy]; exact HH.out.2.2.1 ad (.inl hA)
 ·rcases gblk (P := ⟨A1, 0, 0, []⟩) hy with hy | ⟨ad, e1, e2⟩
  ·exact .inl hy
  ·rw [e2]; exact h1 ad e1
 ·have hs := H2.out.2.turn.size
  rcases gblk (P := ⟨A1, 0, 0, []⟩) hy with hy | ⟨ad, e1, e2⟩
  ·have := HPo.out y hy; simp; omega
  ·have := H2.out.2.own.rd.lt ad e1; rw [e2]; simp; omega
 ·simp [Value.ownBlock] at hg
 ·omega
theorem update_any (G : List Nat) (d : Nat) (s : StmS) (all : List UInt8) (A : Option Addr) (n c : Nat) (b : List UInt8) (w : World) (h : StrAt w G d s all) (hc0 : s.mode = 4 ∨ s.mode = 5 → s.c0.length = 16) (hr : Rd w A n c b) (hA : ∀ ad, A = some ad → ad.block ∉ G) (hGl : ∀ x ∈ G, x < w.heap.size) (hn : all.length + n ≤ 100000) :
  Calls Tryz.prog 74 #[.pointer (some ⟨d, 0, none⟩), .slice A n c] w (UpdRes w G d s all b) := by
 rcases h with ⟨hm, x, W, m, cw, L, nl, cl, h⟩ | ⟨hm, x, W, P, M, D, O, h⟩ | ⟨hm, he, x, W, P, M, D, O, h⟩ | ⟨hm, he, x, W, P, M, D, O, h⟩
 ·exact updB_any G d s all x W m cw L nl cl A n c b w h hm hr hGl hn
 ·exact updC_any G d s all x W P M D O A n c b w h hm (hc0 (.inl hm)) hr hA hGl (by omega)
 ·exact updE_any G d s all x W P M D O A n c b w h hm he (hc0 (.inr hm)) hr hA hGl hn
 ·exact updD_any G d s all x W P M D O A n c b w h hm he hr hGl hn
def StmS.open_ (s : StmS) (all : List UInt8) : List UInt8 × Int :=
 if all.length < 16 then ([], 65) else
  if tagL s.E s.data (all.take (all.length - 16)) (s.E s.j) = all.drop (all.length - 16) then ((s.cn (all.take (all.length - 16))).1, 0) else ([], 64)
def StmS.fin (s : StmS) (all : List UInt8) : List UInt8 × Int :=
 if s.mode = 4 then ([], 0) else if s.mode = 5 then (if s.enc then (tagL s.E s.data (s.cn all).1 (s.E s.j), 0) else s.open_ all)
 else endB s.mode s.enc s.E s.D (s.blk all).2 (all.drop (16 * s.nb all.length))
def OverAt (w : World) (d : Nat) : Prop := ∃ cs : Array Value, Blk w d 139 cs ∧ cs[11]? = some (.bool true) ∧ cs[4]? = some (.slice none 0 0) ∧ cs.toList.all Value.noByte = true
theorem OverAt.turn {w w' : World} {d : Nat} {S : List Nat} (h : OverAt w d) (ht : Turn S w w') (hd : d ∉ S) : OverAt w' d := by
 obtain ⟨cs, h1, h2⟩ := h
 exact ⟨cs, h1.turn ht hd, h2⟩
theorem OverAt.below {w w' : World} {d : Nat} (h : OverAt w d) (ht : Old w w') : OverAt w' d := h.turn (Turn.of_below [] ht) (by simp)
def EndRes (w : World) (G : List Nat) (d : Nat) (r : List UInt8 × Int) (e : Ending) (w' : World) : Prop :=
 ∃ A n c, e = .returned (.tuple #[.slice A n c, .int .i64 r.2]) ∧ Rd w' A n c r.1 ∧ (∃ cs : Array Value, Blk w' d 139 cs ∧ cs.size = 12 ∧ cs.toList.all Value.noByte = true) ∧ Turn G w w' ∧ n ≤ 100016
def FinRes (w : World) (G : List Nat) (d : Nat) (r : List UInt8 × Int) (e : Ending) (w' : World) : Prop :=
 ∃ A n c, e = .returned (.tuple #[.slice A n c, .int .i64 r.2]) ∧ Rd w' A n c r.1 ∧ OverAt w' d ∧ Turn G w w' ∧ n ≤ 100016
theorem GcAt.tag (x : GX) (W P M D O : Vw) (ctr : List UInt8) (w : World) (h : GcAt w x W ctr P M D O) (h5 : x.mode = 5) (hd : D.n ≤ 100000) (A : Option Addr) (n c : Nat) (l : List UInt8) (hA : Rd w A n c l) (hn : n ≤ 100000) :
  Calls Tryz.prog 113 #[.pointer (some ⟨x.d, 0, none⟩), .slice A n c] w fun e w' => ∃ A' c', e = .returned (.slice A' 16 c') ∧ Own w' w.heap.size (.slice A' 16 c') (tagL (encL x.ks x.R) D.l l M.l) ∧ Old w w' :=
 tag_any x.d x.c x.K x.R x.cp x.ks _ M.A D.A A M.n M.c D.n D.c n c M.l D.l l w h.cells rfl rfl rfl h.cnt.cip h.mask (h.m16 h5) h.data hA hd hn
set_option maxHeartbeats 2000000 in
theorem opened_any (G : List Nat) (d : Nat) (s : StmS) (all : List UInt8) (x : GX) (W P M D O : Vw) (w : World) (h : StrG w G d s all s.c0 [] [] x W P M D O) (hm : s.mode = 5) (_he : s.enc = false) (hd : s.data.length ≤ 100000) (hn : all.length ≤ 100000) :
  Calls Tryz.prog 114 #[.pointer (some ⟨d, 0, none⟩)] w (EndRes w G d (s.open_ all)) := by
 have hE := h.E
 obtain ⟨xd, xm, xe, xk, xr, xw, gc, wl, pl, ol, md, wn, on, g1, g2⟩ := h
 subst xd
 have y4 : w.cell? ⟨x.d, 4, none⟩ = some (.slice W.A W.n W.c) := gc.cells.cell 4
 have hWl : W.n = all.length := by rw [gc.wait.rd.1, wl]
 have hcs : ∀ w', GcAt w' x W s.c0 P M D O → ∃ cs : Array Value, Blk w' x.d 139 cs ∧ cs.size = 12 ∧ cs.toList.all Value.noByte = true := fun w' h' => ⟨_, h'.cells, rfl, rfl⟩
 obtain ⟨RES, hRES⟩ : ∃ r, s.open_ all = r := ⟨_, rfl⟩
 rw [hRES]
 unfold StmS.open_ at hRES
 by_cases h16 : all.length < 16
 ·rw [if_pos h16] at hRES
  have hw : IntKind.i64.wrap ((W.n : Int) - 16) = (W.n : Int) - 16 := IntWalk.i64_in _ (by omega)
  have hlt : (W.n : Int) - 16 < 0 := by omega
  have hltd : decide ((W.n : Int) - 16 < 0) = true := decide_eq_true hlt
  have HH := Lib.hid (And.intro gc (And.intro hcs hRES))
  clear gc hcs hRES g1 g2 hm hWl h16
  go_enter Tryz.func114, Tryz.ntmps114
  go_wp2_with fail
  refine bodyPost_ret (results_tmp2 rfl _ _ _) rfl ?_
  rw [← HH.out.2.2]
  exact ⟨none, 0, 0, rfl, Rd.nil _, HH.out.2.1 w HH.out.1, Turn.refl _ _, by omega⟩
 ·rw [if_neg h16] at hRES
  obtain ⟨k, hk⟩ : ∃ k, all.length - 16 = k := ⟨_, rfl⟩
  rw [hk] at hRES
  have hkn : k ≤ W.n := by omega
  have hw : IntKind.i64.wrap ((W.n : Int) - 16) = (k : Int) := by rw [IntWalk.i64_in _ (by omega)]; omega
  have hlt : ¬ ((k : Int) < 0) := by omega
  have hltd : decide ((k : Int) < 0) = false := decide_eq_false hlt
  have hDn : D.n ≤ 100000 := by have := (show Rd w D.A D.n D.c D.l from gc.data).1; rw [(md hm).2] at this; omega
  have hrW := gc.wait.rd
  rw [wl] at hrW
  have hsl := slice_to W.A W.n W.c k hrW.spot (by have := hrW.2.1; omega)
  obtain ⟨A4, n4, c4, hn4, hS4, hR4, hB4⟩ := hrW.cut_ex2 (k := k) hkn
  have HH := Lib.hid (And.intro gc (And.intro hcs (And.intro hRES (And.intro g1 (And.intro g2 (And.intro hm (And.intro hWl (And.intro hrW (And.intro hR4 md)))))))))
  have HK := Lib.hid (And.intro (show k ≤ 100000 by omega) hDn)
  clear gc hcs hRES g1 g2 hWl h16 hrW hR4 md hk hn4 hDn
  go_enter Tryz.func114, Tryz.ntmps114
  go_wp2_with fail
  refine region_old (by kernel_rfl) (fun wd hHeld hSz => ?_)
  have HSz := Lib.hid hSz
  clear hSz
  have hOd := hHeld
  refine tkS 0 hHeld ?_
  refine tkS 1 hHeld ?_
  refine tkS 2 hHeld ?_
  refine tkS 3 hHeld ?_
  refine tkS 4 hHeld ?_ (hy := by intro wq hSw; have r4 := cellOld' hSw y4; clear hSw; go_simp; try with_reducible rfl)
  refine tkS 5 hHeld ?_
  refine tkS 6 hHeld ?_ (hy := by intro wq hSw; have hRun := hsl wq; clear hSw; go_simp; try with_reducible rfl)
  refine tkS 8 hHeld ?_
  refine tkS 9 hHeld ?_
  refine tkS 10 hHeld ?_
  refine tkS 11 hHeld ?_ (hy := by intro wq hSw; have r4 := cellOld' hSw y4; clear hSw; go_simp; try with_reducible rfl)
  refine tkS 12 hHeld ?_
  refine tkS 13 hHeld ?_ (hy := by intro wq hSw; have hRun := hS4 wq; clear hSw; go_simp; try with_reducible rfl)
  refine rdL 7 (fun K hK => ?_)
  go_simp
  refine (GcAt.tag x W P M D O s.c0 wd (HH.out.1.below hOd) (by rw [xm]; exact hm) HK.out.2 W.A k W.c (all.take k) ((HH.out.2.2.2.2.2.2.2.1.below hOd).front hkn) HK.out.1).mono ?_
  rintro e wa ⟨A7, c7, rfl, hOw, hBa⟩
  refine hK.out _ _ (hHeld.trans hBa) (fun hHeld => ?_)
  clear hK K
  try simp only [Act.put, sA, sB, sC]
  refine rdL 14 (fun K hK => ?_)
  go_simp
  refine (equalB_any_q _ _ _ _ _ _ _ _ wa hOw.rd (HH.out.2.2.2.2.2.2.2.2.1.below (hOd.trans hBa))).mono ?_
  rintro e wb ⟨hEq, rfl⟩
  subst hEq
  obtain ⟨bq, hEq⟩ : ∃ bq, decide (tagL (encL x.ks x.R) D.l (all.take k) M.l = all.drop k) = bq := ⟨_, rfl⟩
  rw [hEq]
  refine hK.out _ _ hHeld (fun hHeld => ?_)
  clear hK K
  try simp only [Act.put, sA, sB, sC]
  refine tkS 15 hHeld ?_
  refine wpAnyH_done (by kernel_rfl) ?_ _
  refine NoPanic.normal ?_
  have hOa : Old w wa := hOd.trans hBa
  have HA := Lib.hid (And.intro hOa (HH.out.1.below hOa))
  have y4a := cellOld' hOa y4
  have hM5 := HH.out.2.2.2.2.2.2.2.2.2 hm
  rw [hE, hM5.1, hM5.2] at hEq
  clear hOa hOd hHeld hBa hOw
  simp only [Exit.then]
  try go_at_K
  cases hq : decide (tagL s.E s.data (all.take k) (s.E s.j) = all.drop k) with
  | true =>
   have hR := HH.out.2.2.1
   rw [if_pos (of_decide_eq_true hq)] at hR
   have hcall := count_any_q (x.cx W.v M.v D.v O.v) s.c0 P.A P.n P.c P.l W.A k W.c (all.take k) wa HA.out.2.cnt ((HH.out.2.2.2.2.2.2.2.1.below HA.out.1).front hkn) (fun ad e => HH.out.1.sg ad (.inl e)) HK.out.1
   rw [show (x.cx W.v M.v D.v O.v).d = x.d from rfl, show (x.cx W.v M.v D.v O.v).gc = x.gc from rfl, show (x.cx W.v M.v D.v O.v).ks = x.ks from rfl, show (x.cx W.v M.v D.v O.v).R = x.R from rfl, show (x.cx W.v M.v D.v O.v).wd = x.wd from rfl, hE, xw, pl] at hcall
   have HC := Lib.hid (And.intro hcall hR)
   clear hcall hR
   have hbq : bq = true := hEq.symm.trans hq
   subst hbq
   go_wp2_with fail
   refine HC.out.1.mono ?_
   rintro e w2 ⟨A1, n1, c1, P1, np1, q1, rfl, ho, hC, hP, hT, _⟩
   have HR := Lib.hid (And.intro ho (And.intro hC hT))
   clear ho hC hP hT
   go_wp2_with fail
   refine bodyPost_ret (results_tmp2 rfl _ _ _) rfl ?_
   have ho9 : n1 ≤ 100016 := by
    have h1 := HR.out.1.len
    have h2 := cnt1_le s.E s.wd (all.take k) [] s.c0
    rw [List.length_take] at h2
    have := HK.out.1
    rw [h1]
    exact Nat.le_trans h2 (by omega)
   rw [← HC.out.2]
   refine ⟨A1, n1, c1, rfl, HR.out.1.rd, ⟨_, HR.out.2.1.blk, by simp; rfl, all_set HR.out.2.1.ok.nob rfl⟩, ((Turn.of_below G HA.out.1).trans HR.out.2.2 (fun y hy => .inl (by simp at hy; rcases hy with rfl | rfl; exact HH.out.2.2.2.1.1; exact HH.out.2.2.2.1.2.2.2))), by have := ho9; omega⟩
  | false =>
   have hR := HH.out.2.2.1
   rw [if_neg (of_decide_eq_false hq)] at hR
   have HC := Lib.hid hR
   clear hR
   have hbq : bq = false := hEq.symm.trans hq
   subst hbq
   go_wp2_with fail
   refine bodyPost_ret (results_tmp2 rfl _ _ _) rfl ?_
   rw [← HC.out]
   exact ⟨none, 0, 0, rfl, Rd.nil _, HH.out.2.1 wa HA.out.2, Turn.of_below G HA.out.1, by omega⟩
end Go.Proofs.YtgjnmpjimhbfgaaGreatDoor
