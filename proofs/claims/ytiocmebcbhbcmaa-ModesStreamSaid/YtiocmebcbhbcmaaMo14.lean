/-
  Modes: bytes taken in: Update.
-/
import Derived.Test.YtiocmebcbhbcmaaZzMr1
namespace Go.Proofs.Ytiocmebcbhbcmaa
set_option maxRecDepth 100000
open Go.RowKit

/-- What came out when all came in. -/
def PS.front (s : PS) (all : List UInt8) : List UInt8 :=
  if s.mode = 4 then (s.cn all).1 else if s.mode = 5 then (if s.enc then (s.cn all).1 else []) else (s.blk all).1
theorem PS.nb_add (s : PS) (a b : Nat) : s.nb (a + b) = s.nb a + ((a - 16 * s.nb a + b) - s.keep) / 16 := by
  unfold PS.nb
  have : s.keep ≤ 1 := by unfold PS.keep; split <;> omega
  generalize s.keep = k at *
  omega
theorem PS.nb_le (s : PS) (a : Nat) : 16 * s.nb a ≤ a := by unfold PS.nb; omega
theorem PS.blk_add (s : PS) (all b : List UInt8) : s.blk (all ++ b) = ((s.blk all).1 ++ (blkN s.mode s.enc s.E s.D (((all.drop (16 * s.nb all.length) ++ b).length - s.keep) / 16) (s.blk all).2 (all.drop (16 * s.nb all.length) ++ b)).1,
    (blkN s.mode s.enc s.E s.D (((all.drop (16 * s.nb all.length) ++ b).length - s.keep) / 16) (s.blk all).2 (all.drop (16 * s.nb all.length) ++ b)).2) ∧
    (all.drop (16 * s.nb all.length) ++ b).drop (16 * (((all.drop (16 * s.nb all.length) ++ b).length - s.keep) / 16)) = (all ++ b).drop (16 * s.nb (all ++ b).length) := by
  have h1 := s.nb_le all.length
  have h2 : (all.drop (16 * s.nb all.length) ++ b).length = all.length - 16 * s.nb all.length + b.length := by simp
  have h3 : s.nb (all ++ b).length = s.nb all.length + ((all.drop (16 * s.nb all.length) ++ b).length - s.keep) / 16 := by rw [h2, List.length_append, s.nb_add]
  have h4 : (all ++ b).drop (16 * s.nb all.length) = all.drop (16 * s.nb all.length) ++ b := List.drop_append_of_le_length h1
  constructor
  · unfold PS.blk
    rw [h3, blkN_add, h4, blkN_front _ _ _ _ _ _ _ _ h1]
  · rw [h3, Nat.mul_add, ← h4, List.drop_drop]
theorem drop_front (X Y : List UInt8) : (X ++ Y).drop X.length = Y := by simp
/-- What Update leaves. -/
def UpdRes (w : World) (G : List Nat) (d : Nat) (s : PS) (all b : List UInt8) (e : Ending) (w' : World) : Prop :=
  ∃ (A : Option Addr) (n c : Nat) (G' : List Nat), e = .returned (.slice A n c) ∧ Own w' w.heap.size (.slice A n c) ((s.front (all ++ b)).drop (s.front all).length) ∧ StrAt w' G' d s (all ++ b) ∧ Turn G w w' ∧ (∀ x ∈ G', x ∈ G ∨ w.heap.size ≤ x) ∧ (∀ x ∈ G', x < w'.heap.size) ∧ (∀ g, (Value.slice A n c).ownBlock = some g → g ∉ G') ∧ n ≤ all.length + b.length
theorem Rd.turnX {w w' : World} {A : Option Addr} {m c : Nat} {l : List UInt8} {S : List Nat} (h : Rd w A m c l) (ht : Turn S w w') (hS : ∀ g ∈ S, NoB w g ∨ ∀ ad, A = some ad → ad.block ≠ g) : Rd w' A m c l := by
  rcases Nat.eq_zero_or_pos m with rfl | hm
  · obtain rfl : l = [] := List.length_eq_zero_iff.1 h.1.symm
    obtain ⟨h1, h2, h3, h4⟩ := h
    refine ⟨h1, h2, h3, ?_⟩
    rcases h4 with h4 | ⟨b, off, hA, hat⟩
    · exact .inl h4
    · exact .inr ⟨b, off, hA, Nat.lt_of_lt_of_le hat.1 ht.size, fun k x hk => by simp at hk⟩
  · refine h.turn ht (fun ad e hm2 => ?_)
    rcases hS _ hm2 with h1 | h1
    · exact h1.ne h hm ad e rfl
    · exact h1 ad e rfl
/-- A row grown: it lies where it lay, or anew. -/
theorem BkW.grown {w w1 : World} {x : BX} {W L A : Option Addr} {m cw nl cl n c : Nat} {wait last l : List UInt8} (h : BkW w x W m cw wait L nl cl last) (hG : GrewO 0 w w1 W m cw A n c l) : BkW (w1.setCell ⟨x.d, 4, none⟩ (.slice A n c)) x A n c l L nl cl last := by
  have hd : x.d < w.heap.size := h.bkc.blk.lt
  have hcl := h.bkc.cip.lt
  have hA : ∀ ad, A = some ad → W = some ad ∧ c = cw ∨ ad.block = w.heap.size := fun ad e => by
    rcases hG.at_ with ⟨h1, h2⟩ | h1
    · exact .inl ⟨by rw [← h1]; exact e, h2⟩
    · rw [e] at h1; exact .inr (by simpa using h1)
  have hsep : ∀ b, A = some b → b.block ≠ x.c ∧ b.block ≠ x.K ∧ b.block ≠ x.d := fun b e => by
    rcases hA b e with ⟨h1, _⟩ | h1
    · exact h.sep b h1
    · rw [h1]; exact ⟨by omega, by omega, by omega⟩
  refine ⟨(h.grow hG).put4 A n c, hG.own.turn turn_put (fun ad e => by simp; exact (hsep ad e).2.2), fun a b e1 e2 e3 => ?_, hsep⟩
  rcases hA b e2 with ⟨h1, h2⟩ | h1
  · rw [h2]; exact h.ahead a b e1 h1 e3
  · have := h.bkc.last.lt a e1
    omega
set_option maxHeartbeats 2000000 in
theorem updB_any (G : List Nat) (d : Nat) (s : PS) (all : List UInt8) (x : BX) (W : Option Addr) (m cw : Nat) (L : Option Addr) (nl cl : Nat) (A : Option Addr) (n c : Nat) (b : List UInt8) (w : World) (h : StrB w G d s all x W m cw L nl cl) (hm : s.mode = 1 ∨ s.mode = 2 ∨ s.mode = 3) (hr : Rd w A n c b) (hGl : ∀ x ∈ G, x < w.heap.size) (hn : all.length + n ≤ 100000) :
    Calls Try.prog 17 #[.pointer (some ⟨d, 0, none⟩), .slice A n c] w (UpdRes w G d s all b) := by
  obtain ⟨xd, xm, xe, xk, xr, bk, g1, g2⟩ := h
  have hE : x.E = s.E := by unfold BX.E PS.E; rw [xk, xr]
  have hD : x.D = s.D := by unfold BX.D PS.D; rw [xk, xr]
  subst xd
  have y0 := bk.bkc.c0
  have y11 : w.cell? ⟨x.d, 11, none⟩ = some (.bool false) := bk.bkc.blk.cell 11
  have y4 := bk.bkc.c4
  have a3 : ((x.mode : Int) == 4) = false := by simp; omega
  have a4 : ¬ (x.mode : Int) = 4 := by omega
  have a5 : ((x.mode : Int) == 5) = false := by simp; omega
  have a6 : ¬ (x.mode : Int) = 5 := by omega
  have hbl : n = b.length := hr.1
  have hwl : m = all.length - 16 * s.nb all.length := by rw [bk.wait.rd.1]; simp
  have hadd := s.blk_add all b
  have hfr : ∀ l, s.front l = (s.blk l).1 := fun l => by unfold PS.front; rw [if_neg (by omega), if_neg (by omega)]
  have hkeep : s.keep = if (decide (x.mode = 3) && !x.enc) = true then 1 else 0 := by unfold PS.keep; rw [xm, xe]; cases s.enc <;> by_cases e : s.mode = 3 <;> simp [e]
  have HXK := xk
  have HXR := xr
  have HH := Lib.hid (And.intro bk (And.intro hr (And.intro hbl (And.intro hwl (And.intro hadd (And.intro hfr (And.intro hE (And.intro hD (And.intro xm (And.intro xe (And.intro g1 (And.intro g2 (And.intro hkeep hm)))))))))))))
  clear bk hr hbl hwl hadd hfr hE hD xm xe xk xr g1 g2 hkeep hm
  go_enter Try.func17, Try.ntmps17
  go_upto_region 14 with (at_builtin; go_must (refine wp_app_O (.tmp 56) (.tmp 57) 0 W m cw _ HH.out.1.wait (Nat.zero_le _) A n c b HH.out.2.1 (by have h1 := HH.out.2.2.1; have h2 := HH.out.2.2.2.1; simp only [List.length_drop]; omega) rfl rfl rfl rfl ?_); intro A1 n1 c1 w1 hG; have hbk1 := HH.out.1.grown hG; have hbk0 := HH.out.1.grow hG; have y4b := hbk0.c4; have f4b := hbk0.frozen 4; have H1 := Lib.hid (And.intro hbk1 (And.intro hG hbk0)); clear hbk1 hG hbk0)
  obtain ⟨w2, hw2⟩ : ∃ w2, w1.setCell ⟨x.d, 4, none⟩ (.slice A1 n1 c1) = w2 := ⟨_, rfl⟩
  have hbk := H1.out.1
  have hT2 : Turn (x.d :: (W.map Addr.block).toList) w w2 := by rw [← hw2]; exact (H1.out.2.1.turn.more (fun y hy => List.mem_cons_of_mem _ hy)).trans turn_put (fun y hy => .inl (by simp at hy; simp [hy]))
  rw [hw2] at hbk ⊢
  have hpad := padded_any x A1 n1 c1 L nl cl _ w2 hbk.bkc
  have hn1 : n1 ≤ 100000 := by have := H1.out.2.1.len; have h1 := HH.out.2.2.1; have h2 := HH.out.2.2.2.1; simp only [List.length_append, List.length_drop] at this; omega
  have hW1 : ∀ ad, A1 = some ad → (∃ a0, W = some a0 ∧ ad.block = a0.block) ∨ w.heap.size ≤ ad.block := fun ad e => by
    rcases H1.out.2.1.at_ with ⟨h1, h2⟩ | h1
    · exact .inl ⟨ad, by rw [← h1]; exact e, rfl⟩
    · rw [e] at h1; right; simp at h1; omega
  have hfin : ∀ (e : Ending) (w' : World), (∃ A' n' c' W' m' cw' L' nl' cl', e = .returned (.slice A' n' c') ∧ Own w' w2.heap.size (.slice A' n' c') (blkN x.mode x.enc x.E x.D ((n1 - s.keep) / 16) (s.blk all).2 (all.drop (16 * s.nb all.length) ++ b)).1 ∧
      BkW w' x W' m' cw' ((all.drop (16 * s.nb all.length) ++ b).drop (16 * ((n1 - s.keep) / 16))) L' nl' cl' (blkN x.mode x.enc x.E x.D ((n1 - s.keep) / 16) (s.blk all).2 (all.drop (16 * s.nb all.length) ++ b)).2 ∧ W'.map Addr.block = A1.map Addr.block ∧ From w2.heap.size L' L A1 ∧ Turn [x.d] w2 w' ∧ (∀ ad, L' = some ad → (Value.slice A' n' c').ownBlock ≠ some ad.block) ∧ n' ≤ n1) → UpdRes w G x.d s all b e w' := by
    rintro e w' ⟨A', n', c', W', m', cw', L', nl', cl', rfl, p1, p2, p3, p4, p5, p6, p7⟩
    have hlen := H1.out.2.1.len
    obtain ⟨q1, q2⟩ := HH.out.2.2.2.2.1
    rw [hlen, HH.out.2.2.2.2.2.2.1, HH.out.2.2.2.2.2.2.2.1, HH.out.2.2.2.2.2.2.2.2.1, HH.out.2.2.2.2.2.2.2.2.2.1] at p1 p2
    rw [q2] at p2
    have e1 := congrArg Prod.fst q1
    have e2 := congrArg Prod.snd q1
    simp only at e1 e2
    rw [← e2] at p2
    have g1 := HH.out.2.2.2.2.2.2.2.2.2.2.1
    have g2 := HH.out.2.2.2.2.2.2.2.2.2.2.2.1
    have hWb : ∀ ad, W' = some ad → ad.block ∈ G ∨ w.heap.size ≤ ad.block := fun ad e => by
      obtain ⟨a0, h1, h2⟩ := map_block p3 ad e
      rcases hW1 a0 h1 with ⟨a1, h3, h4⟩ | h3
      · exact .inl (by rw [h2, h4]; exact g2 a1 (.inl h3))
      · exact .inr (by rw [h2]; exact h3)
    have hLb : ∀ ad, L' = some ad → ad.block ∈ G ∨ w.heap.size ≤ ad.block := fun ad e => by
      rcases p4 ad e with ⟨a0, h1, h2⟩ | ⟨a0, h1, h2⟩ | h1
      · exact .inl (by rw [h2]; exact g2 a0 (.inr h1))
      · rcases hW1 a0 h1 with ⟨a1, h3, h4⟩ | h3
        · exact .inl (by rw [h2, h4]; exact g2 a1 (.inl h3))
        · exact .inr (by rw [h2]; exact h3)
      · exact .inr (Nat.le_trans hT2.size h1)
    refine ⟨A', n', c', G ++ (W'.map Addr.block).toList ++ (L'.map Addr.block).toList, rfl, ?_, .inl ⟨HH.out.2.2.2.2.2.2.2.2.2.2.2.2.2, x, W', m', cw', L', nl', cl', ⟨rfl, HH.out.2.2.2.2.2.2.2.2.1, HH.out.2.2.2.2.2.2.2.2.2.1, HXK, HXR, p2, ⟨by simp [g1.1], by simp [g1.2.1], by simp [g1.2.2]⟩, fun ad e => ?_⟩⟩, ?_, fun y hy => ?_, fun y hy => ?_, fun g hg hm => ?_, ?_⟩
    · rw [HH.out.2.2.2.2.2.1, HH.out.2.2.2.2.2.1, e1, drop_front]
      exact p1.mono hT2.size
    · rcases e with e | e <;> rw [e] <;> simp
    · refine (hT2.trans p5 (fun y hy => .inl (by simp at hy; simp [hy]))).more (fun y hy => ?_)
      simp only [List.mem_cons] at hy
      rcases hy with rfl | hy
      · exact g1.1
      · cases W with
        | none => simp at hy
        | some ad => simp at hy; rw [hy]; exact g2 ad (.inl rfl)
    · simp only [List.mem_append] at hy
      rcases hy with (hy | hy) | hy
      · exact .inl hy
      · cases W' with
        | none => simp at hy
        | some ad => simp at hy; rw [hy]; exact hWb ad rfl
      · cases L' with
        | none => simp at hy
        | some ad => simp at hy; rw [hy]; exact hLb ad rfl
    · simp only [List.mem_append] at hy
      rcases hy with (hy | hy) | hy
      · have := hGl y hy; have := hT2.size; have := p5.size; omega
      · cases W' with
        | none => simp at hy
        | some ad => simp at hy; rw [hy]; exact p2.wait.rd.lt ad rfl
      · cases L' with
        | none => simp at hy
        | some ad => simp at hy; rw [hy]; exact p2.bkc.last.lt ad rfl
    · simp only [List.mem_append] at hm
      have hge := (p1.lt hg).1
      rcases hm with (hm | hm) | hm
      · have := hGl g hm; have := hT2.size; omega
      · cases hW : W' with
        | none => rw [hW] at hm; simp at hm
        | some ad =>
          rw [hW] at hm; simp at hm
          obtain ⟨a0, h1, h2⟩ := map_block p3 ad hW
          have := H1.out.1.wait.rd.lt a0 h1
          rw [hw2] at this
          omega
      · cases hL : L' with
        | none => rw [hL] at hm; simp at hm
        | some ad =>
          rw [hL] at hm; simp at hm
          exact p6 ad hL (by rw [hg, hm])
    · have h1 := HH.out.2.2.1
      have h2 := HH.out.2.2.2.1
      simp only [List.length_append, List.length_drop] at hlen
      omega
  have HF := Lib.hid hfin
  have HB := Lib.hid (And.intro hbk hpad)
  clear hbk hT2 hpad hW1 hfin hw2 hGl
  go_wp2_with fail
  refine HB.out.2.mono ?_
  rintro e w3 ⟨rfl, rfl⟩
  cases hq : (decide (x.mode = 3) && !x.enc) with
  | true =>
    have hcall := blocks_any x 1 A1 n1 c1 _ L nl cl _ w2 HB.out.1 (by omega) hn1
    have hk1 : s.keep = 1 := by rw [HH.out.2.2.2.2.2.2.2.2.2.2.2.2.1, hq]; rfl
    have HC := Lib.hid (And.intro hcall hk1)
    clear hcall hk1 hq
    go_wp2_with fail
    refine HC.out.1.mono ?_
    intro e w4 hpost
    rw [← HC.out.2] at hpost
    have hres := HF.out e w4 hpost
    obtain ⟨A5, n5, c5, G5, rfl, r1, r2, r3, r4⟩ := hres
    have HR := Lib.hid (And.intro r1 (And.intro r2 (And.intro r3 r4)))
    clear hpost r1 r2 r3 r4
    go_wp2_with fail
    go_ret
    exact ⟨A5, n5, c5, G5, rfl, HR.out.1, HR.out.2.1, HR.out.2.2.1, HR.out.2.2.2⟩
  | false =>
    have hcall := blocks_any x 0 A1 n1 c1 _ L nl cl _ w2 HB.out.1 (by omega) hn1
    have hk1 : s.keep = 0 := by rw [HH.out.2.2.2.2.2.2.2.2.2.2.2.2.1, hq]; rfl
    have HC := Lib.hid (And.intro hcall hk1)
    clear hcall hk1 hq
    go_wp2_with fail
    refine HC.out.1.mono ?_
    intro e w4 hpost
    rw [← HC.out.2] at hpost
    have hres := HF.out e w4 hpost
    obtain ⟨A5, n5, c5, G5, rfl, r1, r2, r3, r4⟩ := hres
    have HR := Lib.hid (And.intro r1 (And.intro r2 (And.intro r3 r4)))
    clear hpost r1 r2 r3 r4
    go_wp2_with fail
    go_ret
    exact ⟨A5, n5, c5, G5, rfl, HR.out.1, HR.out.2.1, HR.out.2.2.1, HR.out.2.2.2⟩
end Go.Proofs.Ytiocmebcbhbcmaa
