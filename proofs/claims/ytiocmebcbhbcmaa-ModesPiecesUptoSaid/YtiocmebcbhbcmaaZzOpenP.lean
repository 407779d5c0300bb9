/-
  Modes: bytes taken in by a stream with a counter: Update.
  A slice of slices of bytes that came in: rows of bytes; a row of no room may lie anywhere.
-/
import Derived.Test.YtiocmebcbhbcmaaZzMo14
import Derived.Test.YtiocmebcbhbcmaaZzMo12
import Derived.Deep.Matrix
import Derived.Test.YtiocmebcbhbcmaaZzReg
namespace Go.Proofs.Ytiocmebcbhbcmaa
set_option maxRecDepth 100000
open Go.RowKit

section
variable {w w1 w' : World} {x : GX} {W P M D O : Vw} {ctr : List UInt8}
theorem GcAt.cells (h : GcAt w x W ctr P M D O) : Blk w x.d 59 (stG x W.v P.v M.v D.v O.v false) := h.cnt.blk
theorem GcAt.noB (h : GcAt w x W ctr P M D O) : NoB w x.d := NoB.of h.cells rfl
theorem GcAt.below (h : GcAt w x W ctr P M D O) (hb : Old w w') : GcAt w' x W ctr P M D O := ⟨h.cnt.below hb, h.wait.below hb, Rd.below h.mask hb, h.m16, Rd.below h.data hb, h.out.below hb, h.sg, h.sw, h.aw, h.ao⟩
/-- Behind count. -/
theorem GcAt.count (h : GcAt w x W ctr P M D O) (hT : Turn [x.d, x.gc] w w') {ctr' : List UInt8} {P' : Vw} (hC : CntAt w' (x.cx W.v M.v D.v O.v) ctr' P'.A P'.n P'.c P'.l)
    (hP : ∀ ad, P'.A = some ad → (∃ ad0, P.A = some ad0 ∧ ad.block = ad0.block) ∨ w.heap.size ≤ ad.block) : GcAt w' x W ctr' P' M D O := by
  have hN := h.noB
  have hW : ∀ ad, W.A = some ad → ad.block ∉ [x.d, x.gc] := fun ad e => by simp; exact ⟨(h.sw ad (.inl e)).1, h.sg ad (.inl e)⟩
  have hO : ∀ ad, O.A = some ad → ad.block ∉ [x.d, x.gc] := fun ad e => by simp; exact ⟨(h.sw ad (.inr e)).1, h.sg ad (.inr (.inr (.inr e)))⟩
  have hx : ∀ (V : Vw), V.rd w → (∀ ad, V.A = some ad → ad.block ≠ x.gc) → V.rd w' := fun V hV hg => Rd.turnX hV hT (fun g hm => by
    simp at hm
    rcases hm with rfl | rfl
    · exact .inl hN
    · exact .inr hg)
  have hOlt : ∀ ad, O.A = some ad → ad.block < w.heap.size := fun ad e => (h.out.lt (show (Value.slice O.A O.n O.c).ownBlock = some ad.block by rw [e]; rfl)).2
  have hap : ∀ (V : Option Addr), Apart V P.A → (∀ ad, V = some ad → ad.block < w.heap.size) → Apart V P'.A := fun V hV hl a b e1 e2 => by
    rcases hP b e2 with ⟨a0, e3, e4⟩ | h1
    · rw [e4]; exact hV a a0 e1 e3
    · have := hl a e1; omega
  exact ⟨hC, h.wait.turn hT hW, hx M h.mask (fun ad e => h.sg ad (.inr (.inl e))), h.m16, hx D h.data (fun ad e => h.sg ad (.inr (.inr (.inl e)))), h.out.turn hT (fun g hg hm => by
      cases hA : O.A with
      | none => rw [Vw.v, hA] at hg; simp [Value.ownBlock] at hg
      | some ad => rw [Vw.v, hA] at hg; simp [Value.ownBlock] at hg; subst hg; exact hO ad hA hm),
    h.sg, h.sw, ⟨hap _ h.aw.1 (fun ad e => h.wait.rd.lt ad e), h.aw.2⟩, ⟨hap _ h.ao.1 hOlt, h.ao.2⟩⟩
/-- A row of the stream's own grown. -/
theorem GcAt.growW (h : GcAt w x W ctr P M D O) (hO : O = nilW) {A : Option Addr} {n c : Nat} {l : List UInt8} (hG : GrewO 0 w w1 W.A W.n W.c A n c l) :
    GcAt (w1.setCell ⟨x.d, 4, none⟩ (.slice A n c)) x ⟨A, n, c, l⟩ ctr P M D O ∧ Blk w1 x.d 59 (stG x W.v P.v M.v D.v O.v false) := by
  subst hO
  have hcl : x.c < w.heap.size ∧ x.K < w.heap.size := h.cnt.cip.lt
  have hdl : x.d < w.heap.size := h.cells.lt
  have hgl : x.gc < w.heap.size := h.cnt.ctr.lt
  have hnot : ∀ g, (∀ ad, W.A = some ad → ad.block ≠ g) → g ∉ (W.A.map Addr.block).toList := fun g hg hm => by
    cases hA : W.A with
    | none => rw [hA] at hm; simp at hm
    | some ad => rw [hA] at hm; simp at hm; exact hg ad hA hm.symm
  have hA : ∀ ad, A = some ad → W.A = some ad ∨ ad.block = w.heap.size := fun ad e => by
    rcases hG.at_ with ⟨h1, h2⟩ | h1
    · exact .inl (by rw [← h1]; exact e)
    · rw [e] at h1; exact .inr (by simpa using h1)
  have hB1 := h.cells.turn hG.turn (hnot _ (fun ad e => (h.sw ad (.inl e)).1))
  have hN1 := NoB.of hB1 rfl
  have hT : Turn [x.d] w1 (w1.setCell ⟨x.d, 4, none⟩ (.slice A n c)) := turn_put
  have hcip1 := h.cnt.cip.turn hG.turn (hnot _ (fun ad e => (h.sw ad (.inl e)).2.1)) (hnot _ (fun ad e => (h.sw ad (.inl e)).2.2))
  have hctr1 := h.cnt.ctr.turn hG.turn (hnot _ (fun ad e => h.sg ad (.inl e)))
  have hrd : ∀ (V : Vw), V.rd w → Apart W.A V.A → V.rd (w1.setCell ⟨x.d, 4, none⟩ (.slice A n c)) := fun V hV ha => by
    have h1 : Rd w1 V.A V.n V.c V.l := Rd.turn hV hG.turn (fun ad e => hnot _ (fun ad2 e2 => ha ad2 ad e2 e))
    exact h1.turnB hT (fun g hg => by simp at hg; subst hg; exact hN1)
  have hlt : ∀ (V : Vw), V.rd w → ∀ ad, V.A = some ad → ad.block < w.heap.size := fun V hV ad e => Rd.lt hV ad e
  have hap : ∀ (V : Vw), V.rd w → Apart W.A V.A → Apart A V.A := fun V hV ha a b e1 e2 => by
    rcases hA a e1 with h1 | h1
    · exact ha a b h1 e2
    · have := hlt V hV b e2; omega
  refine ⟨⟨⟨⟨rfl, rfl, rfl, rfl, h.cnt.ok.cc16, h.cnt.ok.ccm, h.cnt.ok.wd1, h.cnt.ok.ne1, h.cnt.ok.ne2, rfl⟩, hB1.set_ 4 _, hcip1.turn hT (by simp; exact (hcip1.nd hB1 hN1).1) (by simp; exact (hcip1.nd hB1 hN1).2), hctr1.turn hT (by simp; exact h.cnt.dgc.symm), hrd P h.cnt.pad h.aw.1, h.cnt.ne⟩,
    hG.own.turn hT (fun ad e => ?_), hrd M h.mask h.aw.2.1, h.m16, hrd D h.data h.aw.2.2.1, Own.nil _ _, fun ad e => ?_, fun ad e => ?_, ⟨hap P h.cnt.pad h.aw.1, hap M h.mask h.aw.2.1, hap D h.data h.aw.2.2.1, Apart.none_r _⟩, h.ao⟩, hB1⟩
  · simp
    rcases hA ad e with h1 | h1
    · exact (h.sw ad (.inl h1)).1
    · omega
  · rcases e with e | e
    · rcases hA ad e with h1 | h1
      · exact h.sg ad (.inl h1)
      · omega
    · exact h.sg ad (.inr e)
  · rcases e with e | e
    · rcases hA ad e with h1 | h1
      · exact h.sw ad (.inl h1)
      · exact ⟨by omega, by omega, by omega⟩
    · cases e
theorem GcAt.growO (h : GcAt w x W ctr P M D O) (hW : W = nilW) {A : Option Addr} {n c : Nat} {l : List UInt8} (hG : Grew 0 w w1 O.v A n c l) :
    GcAt (w1.setCell ⟨x.d, 10, none⟩ (.slice A n c)) x W ctr P M D ⟨A, n, c, l⟩ ∧ Blk w1 x.d 59 (stG x W.v P.v M.v D.v O.v false) := by
  subst hW
  have hcl : x.c < w.heap.size ∧ x.K < w.heap.size := h.cnt.cip.lt
  have hdl : x.d < w.heap.size := h.cells.lt
  have hgl : x.gc < w.heap.size := h.cnt.ctr.lt
  have hTo : Turn O.v.ownBlock.toList w w1 := Turn.of_grown hG.grown
  have hob : ∀ g, O.v.ownBlock = some g → ∃ ad, O.A = some ad ∧ ad.block = g := fun g hg => by
    cases hA : O.A with
    | none => rw [Vw.v, hA] at hg; simp [Value.ownBlock] at hg
    | some ad => rw [Vw.v, hA] at hg; simp [Value.ownBlock] at hg; exact ⟨ad, rfl, hg⟩
  have hnot : ∀ g, (∀ ad, O.A = some ad → ad.block ≠ g) → g ∉ O.v.ownBlock.toList := fun g hg hm => by
    obtain ⟨ad, e1, e2⟩ := hob g (by simpa using hm)
    exact hg ad e1 e2
  have hA : ∀ ad, A = some ad → (∃ a0, O.A = some a0 ∧ ad.block = a0.block) ∨ ad.block = w.heap.size := fun ad e => by
    rcases hG.at_ with h1 | h1
    · rw [e] at h1
      obtain ⟨a0, e1, e2⟩ := hob ad.block h1.symm
      exact .inl ⟨a0, e1, e2.symm⟩
    · rw [e] at h1; exact .inr (by simpa [Value.ownBlock] using h1)
  have hB1 := h.cells.turn hTo (hnot _ (fun ad e => (h.sw ad (.inr e)).1))
  have hN1 := NoB.of hB1 rfl
  have hT : Turn [x.d] w1 (w1.setCell ⟨x.d, 10, none⟩ (.slice A n c)) := turn_put
  have hcip1 := h.cnt.cip.turn hTo (hnot _ (fun ad e => (h.sw ad (.inr e)).2.1)) (hnot _ (fun ad e => (h.sw ad (.inr e)).2.2))
  have hctr1 := h.cnt.ctr.turn hTo (hnot _ (fun ad e => h.sg ad (.inr (.inr (.inr e)))))
  have hrd : ∀ (V : Vw), V.rd w → Apart O.A V.A → V.rd (w1.setCell ⟨x.d, 10, none⟩ (.slice A n c)) := fun V hV ha => by
    have h1 : Rd w1 V.A V.n V.c V.l := Rd.turn hV hTo (fun ad e => hnot _ (fun ad2 e2 => ha ad2 ad e2 e))
    exact h1.turnB hT (fun g hg => by simp at hg; subst hg; exact hN1)
  have hap : ∀ (V : Vw), V.rd w → Apart O.A V.A → Apart A V.A := fun V hV ha a b e1 e2 => by
    rcases hA a e1 with ⟨a0, h1, h2⟩ | h1
    · rw [h2]; exact ha a0 b h1 e2
    · have := Rd.lt hV b e2; omega
  have hne : ∀ ad, A = some ad → ad.block ≠ x.d ∧ ad.block ≠ x.c ∧ ad.block ≠ x.K ∧ ad.block ≠ x.gc := fun ad e => by
    rcases hA ad e with ⟨a0, h1, h2⟩ | h1
    · rw [h2]
      have := h.sw a0 (.inr h1)
      exact ⟨this.1, this.2.1, this.2.2, h.sg a0 (.inr (.inr (.inr h1)))⟩
    · exact ⟨by omega, by omega, by omega, by omega⟩
  refine ⟨⟨⟨⟨rfl, rfl, rfl, rfl, h.cnt.ok.cc16, h.cnt.ok.ccm, h.cnt.ok.wd1, h.cnt.ok.ne1, h.cnt.ok.ne2, rfl⟩, hB1.set_ 10 _, hcip1.turn hT (by simp; exact (hcip1.nd hB1 hN1).1) (by simp; exact (hcip1.nd hB1 hN1).2), hctr1.turn hT (by simp; exact h.cnt.dgc.symm), hrd P h.cnt.pad h.ao.1, h.cnt.ne⟩,
    OwnO.nil _ _, hrd M h.mask h.ao.2.1, h.m16, hrd D h.data h.ao.2.2, hG.own.turn hT (fun g hg hm => ?_), fun ad e => ?_, fun ad e => ?_, ⟨Apart.none_l _, Apart.none_l _, Apart.none_l _, Apart.none_l _⟩, ⟨hap P h.cnt.pad h.ao.1, hap M h.mask h.ao.2.1, hap D h.data h.ao.2.2⟩⟩, hB1⟩
  · simp at hm
    subst hm
    exact (hG.own.notin (Blk.noRow hB1 (by decide))) hg
  · rcases e with e | e | e | e
    · cases e
    · exact h.sg ad (.inr (.inl e))
    · exact h.sg ad (.inr (.inr (.inl e)))
    · exact (hne ad e).2.2.2
  · rcases e with e | e
    · cases e
    · exact ⟨(hne ad e).1, (hne ad e).2.1, (hne ad e).2.2.1⟩
end
theorem cnt1_le (E : List UInt8 → List UInt8) (wd : Nat) : ∀ (a pad ctr : List UInt8), (cnt1 E wd a pad ctr).1.length ≤ a.length
  | [], pad, ctr => Nat.le_refl _
  | x :: a, y :: pad, ctr => by have := cnt1_le E wd a pad ctr; simp [cnt1]; omega
  | x :: a, [], ctr => by
    cases h : E ctr with
    | nil => simp [cnt1, h]
    | cons y p => have := cnt1_le E wd a p (stepL wd ctr); simp [cnt1, h]; omega
theorem StrG.E {w : World} {G : List Nat} {d : Nat} {s : PS} {wl ctr pl ol : List UInt8} {x : GX} {W P M D O : Vw} (h : StrG w G d s wl ctr pl ol x W P M D O) : encL x.ks x.R = s.E := by unfold PS.E; rw [h.xk, h.xr]
theorem PS.cn_add {w : World} {G : List Nat} {d : Nat} {s : PS} {wl ctr pl ol : List UInt8} {x : GX} {W P M D O : Vw} (h : StrG w G d s wl ctr pl ol x W P M D O) (hc0 : s.c0.length = 16) (all b : List UInt8) :
    s.cn (all ++ b) = ((s.cn all).1 ++ (cnt1 s.E s.wd b (s.cn all).2.1 (s.cn all).2.2).1, (cnt1 s.E s.wd b (s.cn all).2.1 (s.cn all).2.2).2) := by
  unfold PS.cn
  refine cnt1_append s.E s.wd (fun l hl e => ?_) all b [] s.c0 hc0
  have h1 : (s.E l).length = 16 := enc_ne s.ks s.R l hl (by rw [← h.xk, ← h.xr]; exact h.gc.cnt.cip.2.2.2.2.2.1)
  rw [e] at h1
  cases h1
theorem gblk {P : Vw} {G : List Nat} {y : Nat} (h : y ∈ G ++ (P.A.map Addr.block).toList) : y ∈ G ∨ ∃ ad, P.A = some ad ∧ y = ad.block := by
  rcases List.mem_append.1 h with h | h
  · exact .inl h
  · exact .inr (vblk_of h)
set_option maxHeartbeats 2000000 in
theorem updC_any (G : List Nat) (d : Nat) (s : PS) (all : List UInt8) (x : GX) (W P M D O : Vw) (A : Option Addr) (n c : Nat) (b : List UInt8) (w : World) (h : StrG w G d s [] (s.cn all).2.2 (s.cn all).2.1 [] x W P M D O) (hm : s.mode = 4) (hc0 : s.c0.length = 16) (hr : Rd w A n c b) (hA : ∀ ad, A = some ad → ad.block ∉ G) (hGl : ∀ x ∈ G, x < w.heap.size) (hn : n ≤ 100000) :
    Calls Try.prog 17 #[.pointer (some ⟨d, 0, none⟩), .slice A n c] w (UpdRes w G d s all b) := by
  have hE := h.E
  have hadd := PS.cn_add h hc0 all b
  obtain ⟨xd, xm, xe, xk, xr, xw, gc, wl, pl, ol, md, wn, on, g1, g2⟩ := h
  subst xd
  have y0 := gc.cells.cell 0
  have y11 : w.cell? ⟨x.d, 11, none⟩ = some (.bool false) := gc.cells.cell 11
  simp only [stG, List.getElem?_toArray, List.getElem?_cons_zero, List.getElem?_cons_succ] at y0
  rw [xm, hm, show ((4 : Nat) : Int) = 4 from rfl] at y0
  have hcall := count_any (x.cx W.v M.v D.v O.v) (s.cn all).2.2 P.A P.n P.c P.l A n c b w gc.cnt hr (fun ad e => fun e2 => hA ad e (by rw [e2]; exact g1.2.2.2)) hn
  rw [show (x.cx W.v M.v D.v O.v).d = x.d from rfl, show (x.cx W.v M.v D.v O.v).gc = x.gc from rfl, show (x.cx W.v M.v D.v O.v).ks = x.ks from rfl, show (x.cx W.v M.v D.v O.v).R = x.R from rfl, show (x.cx W.v M.v D.v O.v).wd = x.wd from rfl, hE, xw, pl] at hcall
  have HH := Lib.hid (And.intro hcall (And.intro hadd (And.intro gc (And.intro g1 (And.intro g2 hm)))))
  clear hcall hadd gc g1 g2 hm hr
  go_enter Try.func17, Try.ntmps17
  go_wp2_with fail
  refine HH.out.1.mono ?_
  rintro e w1 ⟨A1, n1, c1, P1, np1, q1, rfl, ho, hC, hP, hT, hpo⟩
  have HPo := Lib.hid (And.intro hpo hGl)
  clear hpo hGl
  have HR := Lib.hid (And.intro ho (And.intro hC (And.intro hP hT)))
  clear ho hC hP hT
  go_wp2_with fail
  go_ret
  have hf : ∀ l, s.front l = (s.cn l).1 := fun l => by unfold PS.front; rw [if_pos HH.out.2.2.2.2.2]
  have hgc := HH.out.2.2.1.count (P' := ⟨P1, np1, q1, (cnt1 s.E s.wd b (s.cn all).2.1 (s.cn all).2.2).2.1⟩) HR.out.2.2.2 HR.out.2.1 HR.out.2.2.1
  have e1 := congrArg Prod.fst HH.out.2.1
  have e2 := congrArg (fun t => t.2.1) HH.out.2.1
  have e3 := congrArg (fun t => t.2.2) HH.out.2.1
  simp only at e1 e2 e3
  refine ⟨A1, n1, c1, G ++ (P1.map Addr.block).toList, rfl, ?_, .inr (.inl ⟨HH.out.2.2.2.2.2, x, W, _, M, D, O, ⟨rfl, xm, xe, xk, xr, xw, (by rw [e3]; exact hgc), wl, e2.symm, ol, md, wn, on, ?_, fun ad e => ?_⟩⟩), HR.out.2.2.2.more (fun y hy => ?_), fun y hy => ?_, fun y hy => ?_, fun g hg hm2 => ?_, ?_⟩
  · rw [hf, hf, e1, drop_front]; exact HR.out.1
  · have := HH.out.2.2.2.1
    exact ⟨by simp [this.1], by simp [this.2.1], by simp [this.2.2.1], by simp [this.2.2.2]⟩
  · rcases e with e | e | e | e | e
    · exact List.mem_append.2 (.inl (HH.out.2.2.2.2.1 ad (.inl e)))
    · simp only at e; rw [e]; simp
    · exact List.mem_append.2 (.inl (HH.out.2.2.2.2.1 ad (.inr (.inr (.inl e)))))
    · exact List.mem_append.2 (.inl (HH.out.2.2.2.2.1 ad (.inr (.inr (.inr (.inl e))))))
    · exact List.mem_append.2 (.inl (HH.out.2.2.2.2.1 ad (.inr (.inr (.inr (.inr e))))))
  · simp at hy
    rcases hy with rfl | rfl
    · exact HH.out.2.2.2.1.1
    · exact HH.out.2.2.2.1.2.2.2
  · rcases gblk (P := ⟨P1, 0, 0, []⟩) hy with hy | ⟨ad, h1, h2⟩
    · exact .inl hy
    · rcases HR.out.2.2.1 ad h1 with ⟨a0, h3, h4⟩ | h3
      · exact .inl (by rw [h2, h4]; exact HH.out.2.2.2.2.1 a0 (.inr (.inl h3)))
      · exact .inr (by rw [h2]; exact h3)
  · rcases gblk (P := ⟨P1, 0, 0, []⟩) hy with hy | ⟨ad, h1, h2⟩
    · have := HPo.out.2 y hy; have := HR.out.2.2.2.size; omega
    · rw [h2]; exact HR.out.2.1.pad.lt ad h1
  · rcases gblk (P := ⟨P1, 0, 0, []⟩) hm2 with hy | ⟨ad, h1, h2⟩
    · have := HPo.out.2 g hy; have := (HR.out.1.lt hg).1; omega
    · exact HPo.out.1 ad h1 (by rw [hg, h2])
  · have := HR.out.1.len; have := cnt1_le s.E s.wd b (s.cn all).2.1 (s.cn all).2.2; omega
set_option maxHeartbeats 2000000 in
theorem updE_any (G : List Nat) (d : Nat) (s : PS) (all : List UInt8) (x : GX) (W P M D O : Vw) (A : Option Addr) (n c : Nat) (b : List UInt8) (w : World) (h : StrG w G d s [] (s.cn all).2.2 (s.cn all).2.1 (s.cn all).1 x W P M D O) (hm : s.mode = 5) (he : s.enc = true) (hc0 : s.c0.length = 16) (hr : Rd w A n c b) (hA : ∀ ad, A = some ad → ad.block ∉ G) (hGl : ∀ x ∈ G, x < w.heap.size) (hn : all.length + n ≤ 100000) :
    Calls Try.prog 17 #[.pointer (some ⟨d, 0, none⟩), .slice A n c] w (UpdRes w G d s all b) := by
  have hE := h.E
  have hadd := PS.cn_add h hc0 all b
  have hlen : ∀ l pad ctr : List UInt8, ctr.length = 16 → (cnt1 s.E s.wd l pad ctr).1.length = l.length ∧ (cnt1 s.E s.wd l pad ctr).2.2.length = 16 := fun l pad ctr hl => cnt1_len s.E s.wd (fun l hl e => by
    have h1 : (s.E l).length = 16 := enc_ne s.ks s.R l hl (by rw [← h.xk, ← h.xr]; exact h.gc.cnt.cip.2.2.2.2.2.1)
    rw [e] at h1
    cases h1) l pad ctr hl
  have hWn := h.wn (.inr he)
  obtain ⟨xd, xm, xe, xk, xr, xw, gc, wl, pl, ol, md, wn, on, g1, g2⟩ := h
  subst xd
  have y0 := gc.cells.cell 0
  have y1 := gc.cells.cell 1
  have y11 : w.cell? ⟨x.d, 11, none⟩ = some (.bool false) := gc.cells.cell 11
  simp only [stG, List.getElem?_toArray, List.getElem?_cons_zero, List.getElem?_cons_succ] at y0 y1
  rw [xm, hm, show ((5 : Nat) : Int) = 5 from rfl] at y0
  rw [xe, he] at y1
  have hcall := count_any (x.cx W.v M.v D.v O.v) (s.cn all).2.2 P.A P.n P.c P.l A n c b w gc.cnt hr (fun ad e => fun e2 => hA ad e (by rw [e2]; exact g1.2.2.2)) (by omega)
  rw [show (x.cx W.v M.v D.v O.v).d = x.d from rfl, show (x.cx W.v M.v D.v O.v).gc = x.gc from rfl, show (x.cx W.v M.v D.v O.v).ks = x.ks from rfl, show (x.cx W.v M.v D.v O.v).R = x.R from rfl, show (x.cx W.v M.v D.v O.v).wd = x.wd from rfl, hE, xw, pl] at hcall
  have hl1 := (hlen all [] s.c0 hc0).1
  have hl2 := (hlen b (s.cn all).2.1 (s.cn all).2.2 (hlen all [] s.c0 hc0).2).1
  have hbl := hr.1
  have HH := Lib.hid (And.intro hcall (And.intro hadd (And.intro gc (And.intro g1 (And.intro g2 (And.intro hm (And.intro he (And.intro hl1 (And.intro hl2 hbl)))))))))
  clear hcall hadd gc g1 g2 hm hr he hlen hl1 hl2 hbl
  go_enter Try.func17, Try.ntmps17
  go_wp2_with fail
  refine HH.out.1.mono ?_
  rintro e w1 ⟨A1, n1, c1, P1, np1, q1, rfl, ho, hC, hP, hT, hpo⟩
  have HPo := Lib.hid (And.intro hpo hGl)
  clear hpo hGl
  have hgc := HH.out.2.2.1.count (P' := ⟨P1, np1, q1, (cnt1 s.E s.wd b (s.cn all).2.1 (s.cn all).2.2).2.1⟩) hT hC hP
  have y10 : w1.cell? ⟨x.d, 10, none⟩ = some (.slice O.A O.n O.c) := hgc.cells.cell 10
  have HR := Lib.hid (And.intro ho (And.intro hgc (And.intro hP hT)))
  clear ho hC hP hT hgc
  go_wp2_with (at_builtin; refine wp_app2 (.tmp 46) (.tmp 47) 0 O.v O.l HR.out.2.1.out (Nat.zero_le _) A1 n1 c1 _ HR.out.1.rd (by have h1 := HH.out.2.2.2.2.2.2.2.1; have h2 := HH.out.2.2.2.2.2.2.2.2.1; have h3 := HH.out.2.2.2.2.2.2.2.2.2; have h4 : O.l.length = (cnt1 s.E s.wd all [] s.c0).1.length := congrArg List.length ol; omega) rfl rfl rfl rfl ?_; intro A5 n5 c5 w2 hn5 hG; obtain ⟨hg2, hb2⟩ := HR.out.2.1.growO hWn hG; have z10 := hb2.cell 10; have f10 := hb2.frozen 10; simp only [stG, List.getElem?_toArray, List.getElem?_cons_zero, List.getElem?_cons_succ] at z10; have H2 := Lib.hid (And.intro hg2 hG); clear hg2 hb2 hG)
  go_ret
  have hf : ∀ l, s.front l = (s.cn l).1 := fun l => by unfold PS.front; rw [if_neg (by rw [HH.out.2.2.2.2.2.1]; decide), if_pos HH.out.2.2.2.2.2.1, if_pos HH.out.2.2.2.2.2.2.1]
  have e1 := congrArg Prod.fst HH.out.2.1
  have e2 := congrArg (fun t => t.2.1) HH.out.2.1
  have e3 := congrArg (fun t => t.2.2) HH.out.2.1
  simp only at e1 e2 e3
  have hT2 : Turn O.v.ownBlock.toList w1 w2 := Turn.of_grown H2.out.2.grown
  have hob : ∀ g, O.v.ownBlock = some g → g ∈ G ∧ g < w.heap.size := fun g hg => by
    refine ⟨?_, (HH.out.2.2.1.out.lt hg).2⟩
    cases hA : O.A with
    | none => rw [Vw.v, hA] at hg; simp [Value.ownBlock] at hg
    | some ad => rw [Vw.v, hA] at hg; simp [Value.ownBlock] at hg; subst hg; exact HH.out.2.2.2.2.1 ad (.inr (.inr (.inr (.inr hA))))
  have hTd : Turn [x.d] w2 (w2.setCell ⟨x.d, 10, none⟩ (.slice A5 n5 c5)) := turn_put
  have hNr : NoRow w2 x.d := fun cs hcs => by
    have h9 := HR.out.2.1.cells
    have h8 : Blk w2 x.d 59 _ := h9.turn hT2 (fun hm => by
      have := hob x.d (by simpa using hm)
      obtain ⟨ad, e4, e5⟩ : ∃ ad, O.A = some ad ∧ ad.block = x.d := by
        have hg : O.v.ownBlock = some x.d := by simpa using hm
        cases hA : O.A with
        | none => rw [Vw.v, hA] at hg; simp [Value.ownBlock] at hg
        | some ad => rw [Vw.v, hA] at hg; simp [Value.ownBlock] at hg; exact ⟨ad, rfl, hg⟩
      exact (HH.out.2.2.1.sw ad (.inr e4)).1 e5)
    exact Blk.noRow h8 (by decide) cs hcs
  have ho2 : Own w2 w.heap.size (.slice A1 n1 c1) (cnt1 s.E s.wd b (s.cn all).2.1 (s.cn all).2.2).1 := HR.out.1.turn hT2 (fun g hg hm => by
    have h1 := (HR.out.1.lt hg).1
    have h2 := (hob g (by simpa using hm)).2
    omega)
  have hTall : Turn G w (w2.setCell ⟨x.d, 10, none⟩ (.slice A5 n5 c5)) := ((HR.out.2.2.2.more (S' := G) (fun y hy => by
      simp at hy
      rcases hy with rfl | rfl
      · exact HH.out.2.2.2.1.1
      · exact HH.out.2.2.2.1.2.2.2)).trans hT2 (fun y hy => .inl (hob y (by simpa using hy)).1)).trans hTd (fun y hy => .inl (by simp at hy; subst hy; exact HH.out.2.2.2.1.1))
  have h5 : ∀ ad, A5 = some ad → ad.block ∈ G ∨ w.heap.size ≤ ad.block := fun ad e => by
    rcases H2.out.2.at_ with h1 | h1
    · rw [e] at h1; exact .inl (hob ad.block h1.symm).1
    · rw [e] at h1; right; simp [Value.ownBlock] at h1; have := HR.out.2.2.2.size; omega
  refine ⟨A1, n1, c1, G ++ (P1.map Addr.block).toList ++ (A5.map Addr.block).toList, rfl, ?_, .inr (.inr (.inl ⟨HH.out.2.2.2.2.2.1, HH.out.2.2.2.2.2.2.1, x, W, _, M, D, _, ⟨rfl, xm, xe, xk, xr, xw, (by rw [e3]; exact H2.out.1), wl, e2.symm, ?_, md, wn, fun h => ?_, ?_, fun ad e => ?_⟩⟩)), hTall, fun y hy => ?_, fun y hy => ?_, fun g hg hm2 => ?_, ?_⟩
  · rw [hf, hf, e1, drop_front]
    exact ho2.turn hTd (fun g hg hm => by simp at hm; subst hm; exact (ho2.notin hNr) hg)
  · rw [e1, ← ol]
  · rcases h with h | h
    · rw [HH.out.2.2.2.2.2.1] at h; cases h
    · rw [HH.out.2.2.2.2.2.2.1] at h; cases h
  · have := HH.out.2.2.2.1
    exact ⟨by simp [this.1], by simp [this.2.1], by simp [this.2.2.1], by simp [this.2.2.2]⟩
  · rcases e with e | e | e | e | e
    · exact List.mem_append.2 (.inl (List.mem_append.2 (.inl (HH.out.2.2.2.2.1 ad (.inl e)))))
    · simp only at e; rw [e]; simp
    · exact List.mem_append.2 (.inl (List.mem_append.2 (.inl (HH.out.2.2.2.2.1 ad (.inr (.inr (.inl e)))))))
    · exact List.mem_append.2 (.inl (List.mem_append.2 (.inl (HH.out.2.2.2.2.1 ad (.inr (.inr (.inr (.inl e))))))))
    · simp only at e; rw [e]; simp
  · rcases gblk (P := ⟨A5, 0, 0, []⟩) hy with hy | ⟨ad, h1, h2⟩
    · rcases gblk (P := ⟨P1, 0, 0, []⟩) hy with hy | ⟨ad, h1, h2⟩
      · exact .inl hy
      · rcases HR.out.2.2.1 ad h1 with ⟨a0, h3, h4⟩ | h3
        · exact .inl (by rw [h2, h4]; exact HH.out.2.2.2.2.1 a0 (.inr (.inl h3)))
        · exact .inr (by rw [h2]; exact h3)
    · rw [h2]; exact h5 ad h1
  · have hs := hTall.size
    have hs2 := hTd.size
    have hs3 := hT2.size
    rcases gblk (P := ⟨A5, 0, 0, []⟩) hy with hy | ⟨ad, h1, h2⟩
    · rcases gblk (P := ⟨P1, 0, 0, []⟩) hy with hy | ⟨ad, h1, h2⟩
      · have := HPo.out.2 y hy; omega
      · have := Rd.lt HR.out.2.1.cnt.pad ad h1; rw [h2]; omega
    · have := H2.out.2.own.rd.lt ad h1; rw [h2]; omega
  · have hge := HR.out.1.lt hg
    rcases gblk (P := ⟨A5, 0, 0, []⟩) hm2 with hy | ⟨ad, h1, h2⟩
    · rcases gblk (P := ⟨P1, 0, 0, []⟩) hy with hy | ⟨ad, h1, h2⟩
      · have := HPo.out.2 g hy; omega
      · exact HPo.out.1 ad h1 (by rw [hg, h2])
    · simp only at h1
      rcases H2.out.2.at_ with h3 | h3
      · rw [h1] at h3
        have := (hob ad.block h3.symm).2
        omega
      · rw [h1] at h3
        simp [Value.ownBlock] at h3
        omega
  · have := HR.out.1.len; have := cnt1_le s.E s.wd b (s.cn all).2.1 (s.cn all).2.2; omega
theorem updD_any (G : List Nat) (d : Nat) (s : PS) (all : List UInt8) (x : GX) (W P M D O : Vw) (A : Option Addr) (n c : Nat) (b : List UInt8) (w : World) (h : StrG w G d s all s.c0 [] [] x W P M D O) (hm : s.mode = 5) (he : s.enc = false) (hr : Rd w A n c b) (hGl : ∀ x ∈ G, x < w.heap.size) (hn : all.length + n ≤ 100000) :
    Calls Try.prog 17 #[.pointer (some ⟨d, 0, none⟩), .slice A n c] w (UpdRes w G d s all b) := by
  have hOn := h.on (.inr he)
  obtain ⟨xd, xm, xe, xk, xr, xw, gc, wl, pl, ol, md, wn, on, g1, g2⟩ := h
  subst xd
  have y0 := gc.cells.cell 0
  have y1 := gc.cells.cell 1
  have y4 : w.cell? ⟨x.d, 4, none⟩ = some (.slice W.A W.n W.c) := gc.cells.cell 4
  have y11 : w.cell? ⟨x.d, 11, none⟩ = some (.bool false) := gc.cells.cell 11
  simp only [stG, List.getElem?_toArray, List.getElem?_cons_zero, List.getElem?_cons_succ] at y0 y1
  rw [xm, hm, show ((5 : Nat) : Int) = 5 from rfl] at y0
  rw [xe, he] at y1
  have hbl := hr.1
  have HH := Lib.hid (And.intro gc (And.intro g1 (And.intro g2 (And.intro hm (And.intro he (And.intro hr hbl))))))
  have HPo := Lib.hid hGl
  clear gc g1 g2 hm hr he hbl hGl
  go_enter Try.func17, Try.ntmps17
  go_wp2_with (at_builtin; refine wp_app_O (.tmp 34) (.tmp 35) 0 W.A W.n W.c W.l HH.out.1.wait (Nat.zero_le _) A n c b HH.out.2.2.2.2.2.1 (by have h1 := HH.out.2.2.2.2.2.2; have h2 : W.l.length = all.length := congrArg List.length wl; omega) rfl rfl rfl rfl ?_; intro A1 n1 c1 w1 hG; obtain ⟨hg2, hb2⟩ := HH.out.1.growW hOn hG; have z4 := hb2.cell 4; have f4 := hb2.frozen 4; simp only [stG, List.getElem?_toArray, List.getElem?_cons_zero, List.getElem?_cons_succ] at z4; have H2 := Lib.hid (And.intro hg2 hG); clear hg2 hb2 hG)
  go_ret
  have hf : ∀ l, s.front l = [] := fun l => by unfold PS.front; rw [if_neg (by rw [HH.out.2.2.2.1]; decide), if_pos HH.out.2.2.2.1, if_neg (by rw [HH.out.2.2.2.2.1]; decide)]
  have h1 : ∀ ad, A1 = some ad → ad.block ∈ G ∨ w.heap.size ≤ ad.block := fun ad e => by
    rcases H2.out.2.at_ with ⟨h1, h2⟩ | h1
    · exact .inl (HH.out.2.2.1 ad (.inl (by rw [← h1]; exact e)))
    · rw [e] at h1; right; simp at h1; omega
  refine ⟨none, 0, 0, G ++ (A1.map Addr.block).toList, rfl, ?_, .inr (.inr (.inr ⟨HH.out.2.2.2.1, HH.out.2.2.2.2.1, x, _, P, M, D, O, ⟨rfl, xm, xe, xk, xr, xw, H2.out.1, ?_, pl, ol, md, fun h => ?_, on, ?_, fun ad e => ?_⟩⟩)), ?_, fun y hy => ?_, fun y hy => ?_, fun g hg hm2 => ?_, ?_⟩
  · rw [hf, hf]; exact Own.nil _ _
  · rw [← wl]
  · rcases h with h | h
    · rw [HH.out.2.2.2.1] at h; cases h
    · rw [HH.out.2.2.2.2.1] at h; cases h
  · have := HH.out.2.1
    exact ⟨by simp [this.1], by simp [this.2.1], by simp [this.2.2.1], by simp [this.2.2.2]⟩
  · rcases e with e | e
    · simp only at e; rw [e]; simp
    · exact List.mem_append.2 (.inl (HH.out.2.2.1 ad (.inr e)))
  · refine (H2.out.2.turn.more (fun y hy => ?_)).trans turn_put (fun y hy => .inl (by simp at hy; subst hy; exact HH.out.2.1.1))
    cases hA : W.A with
    | none => rw [hA] at hy; simp at hy
    | some ad => rw [hA] at hy; simp at hy; rw [hy]; exact HH.out.2.2.1 ad (.inl hA)
  · rcases gblk (P := ⟨A1, 0, 0, []⟩) hy with hy | ⟨ad, e1, e2⟩
    · exact .inl hy
    · rw [e2]; exact h1 ad e1
  · have hs := H2.out.2.turn.size
    rcases gblk (P := ⟨A1, 0, 0, []⟩) hy with hy | ⟨ad, e1, e2⟩
    · have := HPo.out y hy; simp; omega
    · have := H2.out.2.own.rd.lt ad e1; rw [e2]; simp; omega
  · simp [Value.ownBlock] at hg
  · omega
/-- A stream takes bytes in. -/
theorem update_any (G : List Nat) (d : Nat) (s : PS) (all : List UInt8) (A : Option Addr) (n c : Nat) (b : List UInt8) (w : World) (h : StrAt w G d s all) (hc0 : s.mode = 4 ∨ s.mode = 5 → s.c0.length = 16) (hr : Rd w A n c b) (hA : ∀ ad, A = some ad → ad.block ∉ G) (hGl : ∀ x ∈ G, x < w.heap.size) (hn : all.length + n ≤ 100000) :
    Calls Try.prog 17 #[.pointer (some ⟨d, 0, none⟩), .slice A n c] w (UpdRes w G d s all b) := by
  rcases h with ⟨hm, x, W, m, cw, L, nl, cl, h⟩ | ⟨hm, x, W, P, M, D, O, h⟩ | ⟨hm, he, x, W, P, M, D, O, h⟩ | ⟨hm, he, x, W, P, M, D, O, h⟩
  · exact updB_any G d s all x W m cw L nl cl A n c b w h hm hr hGl hn
  · exact updC_any G d s all x W P M D O A n c b w h hm (hc0 (.inl hm)) hr hA hGl (by omega)
  · exact updE_any G d s all x W P M D O A n c b w h hm he (hc0 (.inr hm)) hr hA hGl hn
  · exact updD_any G d s all x W P M D O A n c b w h hm he hr hGl hn
end Go.Proofs.Ytiocmebcbhbcmaa
namespace Go.Proofs.Ytiocmebcbhbcmaa
set_option maxRecDepth 100000
open Go.RowKit Go.ChangeShapes Go.WideShapes Go.ChangeAt

/-- One row: read, or of no room. -/
def RdE (w : World) (A : Option Addr) (m c : Nat) (l : List UInt8) : Prop := Rd w A m c l ∨ (m = 0 ∧ c = 0 ∧ l = [])
def RowsAt (w : World) (A : Option Addr) (m : Nat) (ls : List (List UInt8)) : Prop :=
  ls.length = m ∧ (m = 0 ∨ ∃ b off, A = some ⟨b, off, none⟩ ∧ b < w.heap.size ∧ ∀ (j : Nat) (l : List UInt8), ls[j]? = some l → ∃ Aj mj cj, w.cell? ⟨b, off + j, none⟩ = some (.slice Aj mj cj) ∧ RdE w Aj mj cj l)
theorem RdE.below {w w' : World} {A : Option Addr} {m c : Nat} {l : List UInt8} (h : RdE w A m c l) (hb : Old w w') : RdE w' A m c l := h.imp (fun h => h.below hb) id
section
variable {H : Type} {enc : TypeId × Value → H}
theorem open_rows {W : World} {base : Nat} {v : Value} {d : DataW H} {p : List MemPlace} (hval : Value.okWide Try.prog W .any base 30 v) (h : DataW.Trod enc Try.prog W 0 (fun _ => true) true 30 v d p) :
    ∃ A m c ls, v = .slice A m c ∧ m ≤ maxLen ∧ RowsAt W A m ls := by
  have hval' := hval
  obtain ⟨a1, len, cap, rfl⟩ := okWide_slice Try.underlying30 hval
  obtain ⟨fuel, hf⟩ := h
  rcases Deep.open_int_rows Try.underlying30 Try.underlying22 Try.underlying5 (show Try.prog.cellsOf 22 = 1 by kernel_rfl) (show Try.prog.cellsOf 5 = 1 by kernel_rfl) hf with ⟨hcs, hx⟩ | ⟨a, len', cap', A, L, C, Z, hcs, _, hl, hm, hx, hr⟩
  · simp [Value.cells] at hcs
    obtain ⟨rfl, rfl, rfl⟩ := hcs
    exact ⟨_, _, _, [], rfl, Nat.zero_le _, rfl, .inl rfl⟩
  · simp [Value.cells] at hcs
    obtain ⟨rfl, rfl, rfl⟩ := hcs
    unfold Value.okWide Cell.okWide Cell.ok at hval'
    rw [Try.underlying30] at hval'
    obtain ⟨_, _, _, hspot, row, cells, hsh, _⟩ := hval'
    have hlt : a.block < W.heap.size := by
      unfold World.shape? at hsh
      rcases Nat.lt_or_ge a.block W.heap.size with h | h
      · exact h
      · rw [Array.getElem?_eq_none h] at hsh; cases hsh
    obtain ⟨ab, ao, spot⟩ := a
    simp only at hspot hlt
    subst hspot
    refine ⟨_, len, cap, (List.range len).map fun r => ((Z r).take (L r)).map fun n => UInt8.ofNat n.toNat, rfl, by omega, by simp, .inr ⟨ab, ao, rfl, hlt, fun j l hj => ?_⟩⟩
    have hj' : j < len := by
      have := (List.getElem?_eq_some_iff.1 hj).1
      simpa using this
    rw [List.getElem?_map, List.getElem?_range hj'] at hj
    simp only [Option.map_some, Option.some.injEq] at hj
    subst hj
    obtain ⟨hc, h1, h2, h3, h4, h5, h6⟩ := hr j (by omega)
    rw [Addr.add_lit] at hc
    refine ⟨_, _, _, hc, ?_⟩
    rcases Nat.eq_zero_or_pos (C j) with hz | hz
    · exact .inr ⟨by omega, hz, by rw [show L j = 0 by omega]; rfl⟩
    · refine .inl ?_
      obtain ⟨a', ha'⟩ : ∃ a', A j = some a' := by
        cases hA : A j with
        | none => have := h5 hA; omega
        | some a' => exact ⟨a', rfl⟩
      obtain ⟨_, h7⟩ := h6 a' ha'
      have h80 := h7 0 hz
      rw [show a'.add 0 = a' from rfl] at h80
      obtain ⟨ab2, ao2, sp2⟩ := a'
      have hsp : sp2 = none ∧ ab2 < W.heap.size := by
        unfold World.cell? at h80
        simp only at h80
        split at h80
        · rename_i cs t fr hh
          refine ⟨?_, (Array.getElem?_eq_some_iff.1 hh).1⟩
          cases sp2 with
          | none => rfl
          | some s => simp at h80
        · cases h80
      obtain ⟨rfl, hlt2⟩ := hsp
      rw [ha']
      refine ⟨by simp; omega, h1, h2, .inr ⟨ab2, ao2, rfl, hlt2, fun k x hk => ?_⟩⟩
      have hk' : k < L j := by
        have := (List.getElem?_eq_some_iff.1 hk).1
        simp at this; omega
      have hc := h7 k (by omega)
      rw [Addr.add_lit] at hc
      rw [hc]
      have e : (Z j)[k]? = some ((Z j).getD k 0) := by simp [List.getD, List.getElem?_eq_getElem (show k < (Z j).length by omega)]
      rw [List.getElem?_map, List.getElem?_take, if_pos hk', e] at hk
      simp only [Option.map_some, Option.some.injEq] at hk
      have hw := h4 ((Z j).getD k 0) (List.mem_of_getElem? e)
      have hrr : 0 ≤ (Z j).getD k 0 ∧ (Z j).getD k 0 ≤ 255 := by
        simpa [Lit.wf, IntKind.min, IntKind.max, IntKind.bits, IntKind.signed] using hw
      subst hk
      unfold B
      rw [UInt8.toNat_ofNat']
      congr 2
      omega
end
end Go.Proofs.Ytiocmebcbhbcmaa
