/-
  Modes: whole blocks taken through: blocks.
-/
import Derived.Test.YtgjnmpjimhbfgaaGreatDoorZzMo6
import Derived.Test.YtgjnmpjimhbfgaaGreatDoorRep
import Derived.Test.YtgjnmpjimhbfgaaGreatDoorZzEqB
import Derived.Test.YtgjnmpjimhbfgaaGreatDoorZzAesBx
namespace Go.Proofs.YtgjnmpjimhbfgaaGreatDoor
set_option maxRecDepth 100000
open Go.RowKit
def blkN (mode : Nat) (enc : Bool) (E D : List UInt8 → List UInt8) : Nat → List UInt8 → List UInt8 → List UInt8 × List UInt8
 | 0, iv, _ => ([], iv)
 | n + 1, iv, l => ((blkF mode enc E D iv (l.take 16)).1 ++ (blkN mode enc E D n (blkF mode enc E D iv (l.take 16)).2 (l.drop 16)).1, (blkN mode enc E D n (blkF mode enc E D iv (l.take 16)).2 (l.drop 16)).2)
theorem blkN_add (mode : Nat) (enc : Bool) (E D : List UInt8 → List UInt8) (b : Nat) : ∀ (a : Nat) (iv l : List UInt8),
  blkN mode enc E D (a + b) iv l = ((blkN mode enc E D a iv l).1 ++ (blkN mode enc E D b (blkN mode enc E D a iv l).2 (l.drop (16 * a))).1, (blkN mode enc E D b (blkN mode enc E D a iv l).2 (l.drop (16 * a))).2)
 | 0, iv, l => by simp [blkN]
 | a + 1, iv, l => by
  have ih := blkN_add mode enc E D b a (blkF mode enc E D iv (l.take 16)).2 (l.drop 16)
  rw [show a + 1 + b = a + b + 1 by omega]
  simp only [blkN]
  rw [ih]
  simp only [List.drop_drop, List.append_assoc]
  rw [show 16 + 16 * a = 16 * (a + 1) by omega]
theorem blkN_front (mode : Nat) (enc : Bool) (E D : List UInt8 → List UInt8) : ∀ (n : Nat) (iv l x : List UInt8), 16 * n ≤ l.length → blkN mode enc E D n iv (l ++ x) = blkN mode enc E D n iv l
 | 0, _, _, _, _ => rfl
 | n + 1, iv, l, x, h => by
  simp only [blkN]
  rw [List.take_append_of_le_length (by omega), List.drop_append_of_le_length (by omega), blkN_front mode enc E D n _ (l.drop 16) x (by rw [List.length_drop]; omega)]
def Ahead (L : Option Addr) (nl : Nat) (W : Option Addr) (cw : Nat) : Prop := ∀ a b, L = some a → W = some b → a.block = b.block → cw = 0 ∨ a.off + nl ≤ b.off
theorem Ahead.none (nl : Nat) (W : Option Addr) (cw : Nat) : Ahead none nl W cw := fun a b h => by cases h
theorem OwnO.cut_ex {w : World} {base : Nat} {A : Option Addr} {m c : Nat} {l : List UInt8} (h : OwnO w base (.slice A m c) l) {k : Nat} (hk : k ≤ m) :
  ∃ A' n' c', n' = m - k ∧ (∀ w, (Instr.slice 32 (.slice A m c) (some (.int .i64 (k : Int))) none none).run Tryz.prog w = .ok (.slice A' n' c') w) ∧ OwnO w base (.slice A' n' c') (l.drop k) ∧ A'.map Addr.block = A.map Addr.block ∧
   (∀ L nl, Ahead L nl A c → 0 < k → Ahead L nl A' c') ∧ Ahead A k A' c' := by
 refine ⟨_, _, _, rfl, fun w => slice_from A m c k hk w, h.cut hk, ?_, fun L nl ha hk0 => ?_, ?_⟩
 ·split
  ·rfl
  ·cases A <;> simp [Addr.add]
   split <;> rfl
 ·have hc := h.rd.2.1
  intro a b e1 e2 e3
  by_cases hck : c = k
  ·left; omega
  ·rw [if_neg hck] at e2
   cases A with
   | none => cases e2
   | some ad =>
    have hs := h.rd.spot ad rfl
    obtain ⟨g, o, sp⟩ := ad
    simp only at hs
    subst hs
    simp only [Option.map_some, Addr.add_mid] at e2
    cases e2
    rcases ha a _ e1 rfl e3 with h1 | h1
    ·omega
    ·right; simp only at h1 ⊢; omega
 ·intro a b e1 e2 e3
  by_cases hck : c = k
  ·left; omega
  ·rw [if_neg hck] at e2
   subst e1
   have hs := h.rd.spot a rfl
   obtain ⟨g, o, sp⟩ := a
   simp only at hs
   subst hs
   simp only [Option.map_some, Addr.add_mid] at e2
   cases e2
   right
   simp only
   omega
def waitLen (w : World) (d : Nat) : Nat := match w.cell? ⟨d, 4, none⟩ with
 | some (.slice _ n _) => n
 | _ => 0
theorem BkC.wl {w : World} {x : BX} {W L : Option Addr} {m cw nl cl : Nat} {last : List UInt8} (h : BkC w x W m cw L nl cl last) : waitLen w x.d = m := by
 unfold waitLen
 rw [h.c4]
structure BkW (w : World) (x : BX) (W : Option Addr) (m cw : Nat) (wait : List UInt8) (L : Option Addr) (nl cl : Nat) (last : List UInt8) : Prop where
 bkc : BkC w x W m cw L nl cl last
 wait : OwnO w 0 (.slice W m cw) wait
 ahead : Ahead L nl W cw
 sep : ∀ b, W = some b → b.block ≠ x.c ∧ b.block ≠ x.K ∧ b.block ≠ x.d
theorem BkW.below {w w' : World} {x : BX} {W L : Option Addr} {m cw nl cl : Nat} {wait last : List UInt8} (h : BkW w x W m cw wait L nl cl last) (hb : Old w w') : BkW w' x W m cw wait L nl cl last := ⟨h.bkc.below hb, h.wait.below hb, h.ahead, h.sep⟩
theorem BkW.drew {w : World} {x : BX} {W L : Option Addr} {m cw nl cl : Nat} {wait last : List UInt8} (h : BkW w x W m cw wait L nl cl last) : BkW w.drew x W m cw wait L nl cl last := h.below (Old.drew (Old.refl w))
def From (n : Nat) (L : Option Addr) (A B : Option Addr) : Prop := ∀ ad, L = some ad → (∃ a0, A = some a0 ∧ ad.block = a0.block) ∨ (∃ a0, B = some a0 ∧ ad.block = a0.block) ∨ n ≤ ad.block
structure BI (w : World) (x : BX) (W0 L0 : Option Addr) (keep : Nat) (N : Nat) (tot : List UInt8 × List UInt8 × List UInt8) (wr : World) (A2 : Option Addr) (n2 c2 : Nat) (ob : List UInt8) (W : Option Addr) (m cw : Nat) (wait : List UInt8) (L : Option Addr) (nl cl : Nat) (last : List UInt8) : Prop where
 out : Own wr w.heap.size (.slice A2 n2 c2) ob
 bk : BkW wr x W m cw wait L nl cl last
 wb : W.map Addr.block = W0.map Addr.block
 lb : From w.heap.size L L0 W0
 lo : ∀ ad, L = some ad → (Value.slice A2 n2 c2).ownBlock ≠ some ad.block
 len : ob.length + m ≤ N
 turn : Turn [x.d] w wr
 tot : (ob ++ (blkN x.mode x.enc x.E x.D ((m - keep) / 16) last wait).1, (blkN x.mode x.enc x.E x.D ((m - keep) / 16) last wait).2, wait.drop (16 * ((m - keep) / 16))) = tot
theorem map_block {A B : Option Addr} (h : A.map Addr.block = B.map Addr.block) : ∀ ad, A = some ad → ∃ a0, B = some a0 ∧ ad.block = a0.block := by
 intro ad e
 subst e
 cases B with
 | none => cases h
 | some b => exact ⟨b, rfl, by simpa using h⟩
theorem NoRow.of_bk {w : World} {x : BX} {W L : Option Addr} {m cw nl cl : Nat} {last : List UInt8} (h : BkC w x W m cw L nl cl last) : NoRow w x.d := Blk.noRow h.blk (by decide)
theorem BI.next {w wr w1 w2 : World} {x : BX} {W0 L0 : Option Addr} {keep N : Nat} {tot : List UInt8 × List UInt8 × List UInt8} {A2 : Option Addr} {n2 c2 : Nat} {ob : List UInt8} {W : Option Addr} {m cw : Nat} {wait : List UInt8} {L : Option Addr} {nl cl : Nat} {last : List UInt8}
  (h : BI w x W0 L0 keep N tot wr A2 n2 c2 ob W m cw wait L nl cl last) (hW0 : ∀ ad, W0 = some ad → ad.block < w.heap.size) (hd : x.d < w.heap.size ∧ x.c < w.heap.size ∧ x.K < w.heap.size) (hm : 16 + keep ≤ m) {A' : Option Addr} {c' : Nat}
  (hb : BkRes wr x W m cw L nl cl last W 16 (wait.take 16) w1 A' c') {A5 : Option Addr} {n5 c5 : Nat} (hG : Grew w.heap.size w1 w2 (.slice A2 n2 c2) A5 n5 c5 (ob ++ (blkF x.mode x.enc x.E x.D last (wait.take 16)).1)) :
  ∃ W' m' cw' L' nl' cl', m' = m - 16 ∧ (∀ w, (Instr.slice 32 (.slice W m cw) (some (.int .i64 16)) none none).run Tryz.prog w = .ok (.slice W' m' cw') w) ∧ BkC w2 x W m cw L' nl' cl' (blkF x.mode x.enc x.E x.D last (wait.take 16)).2 ∧
   BI w x W0 L0 keep N tot (w2.setCell ⟨x.d, 4, none⟩ (.slice W' m' cw')) A5 n5 c5 (ob ++ (blkF x.mode x.enc x.E x.D last (wait.take 16)).1) W' m' cw' (wait.drop 16) L' nl' cl' (blkF x.mode x.enc x.E x.D last (wait.take 16)).2 := by
 obtain ⟨W', m', cw', hm', hs, ho, hbl, hah1, hah2⟩ := h.bk.wait.cut_ex (k := 16) (by omega)
 obtain ⟨L', nl', cl', hC, hL⟩ := hb.next
 have hml := h.bk.wait.rd.1
 have hwlt : ∀ ad, W = some ad → ad.block < w.heap.size := fun ad e => by
  obtain ⟨a0, e1, e2⟩ := map_block h.wb ad e
  rw [e2]; exact hW0 a0 e1
 have hwW : ∀ ad, W' = some ad → ∃ a0, W = some a0 ∧ ad.block = a0.block := map_block hbl
 have hL2 : From w.heap.size L' L0 W0 := by
  intro ad e
  rcases hL with ⟨h1, _⟩ | h1 | ⟨h1, _⟩
  ·exact h.lb ad (by rw [← h1]; exact e)
  ·exact .inr (.inr (Nat.le_trans h.turn.size (h1 ad e)))
  ·obtain ⟨a0, e1, e2⟩ := map_block h.wb ad (by rw [← h1]; exact e)
   exact .inr (.inl ⟨a0, e1, e2⟩)
 have hLo : ∀ ad, L' = some ad → (Value.slice A2 n2 c2).ownBlock ≠ some ad.block := by
  intro ad e e3
  have hlt := h.out.lt e3
  rcases hL with ⟨h1, _⟩ | h1 | ⟨h1, _⟩
  ·exact h.lo ad (by rw [← h1]; exact e) e3
  ·have := h1 ad e; omega
  ·have := hwlt ad (by rw [← h1]; exact e); omega
 have hT1 := hb.turn
 have hT : Turn (Value.slice A2 n2 c2).ownBlock.toList w1 w2 := Turn.of_grown hG.grown
 have hX : ∀ g, g < w.heap.size → g ∉ (Value.slice A2 n2 c2).ownBlock.toList := fun g hg hm => by
  have := (h.out.lt (by simpa using hm)).1
  omega
 have hN := h.bk.bkc.noB
 have ho1 : OwnO w1 0 (.slice W' m' cw') (wait.drop 16) := ho.turn hT1 (fun ad e => by
  obtain ⟨a0, e1, e2⟩ := hwW ad e
  simp
  rw [e2]
  exact (h.bk.sep a0 e1).2.2)
 have ho2 : OwnO w2 0 (.slice W' m' cw') (wait.drop 16) := ho1.turn hT (fun ad e => by
  obtain ⟨a0, e1, e2⟩ := hwW ad e
  rw [e2]
  exact hX _ (hwlt a0 e1))
 have hC2 : BkC w2 x W m cw L' nl' cl' (blkF x.mode x.enc x.E x.D last (wait.take 16)).2 := ⟨hC.blk.turn hT (hX _ hd.1), hC.cip.turn hT (hX _ hd.2.1) (hX _ hd.2.2), hC.last.turn hT (fun ad e hm => hLo ad e (by simpa using hm)), hC.l16⟩
 have hT3 : Turn [x.d] w2 (w2.setCell ⟨x.d, 4, none⟩ (.slice W' m' cw')) := turn_put
 have hr2 : NoRow w2 x.d := NoRow.of_bk hC2
 refine ⟨W', m', cw', L', nl', cl', hm', fun w => hs w, hC2, ⟨hG.own.turn hT3 (fun g hg hm => (hG.own.notin hr2) (by simp at hm; rw [← hm]; exact hg)), ⟨hC2.put4 W' m' cw', ho2.turn hT3 (fun ad e => ?_), ?_, fun b e => ?_⟩, hbl.trans h.wb, hL2, fun ad e e3 => ?_, ?_, ?_, ?_⟩⟩
 ·obtain ⟨a0, e1, e2⟩ := hwW ad e
  simp
  rw [e2]
  exact (h.bk.sep a0 e1).2.2
 ·rcases hL with ⟨h1, h2⟩ | h1 | ⟨h1, h2⟩
  ·rw [h1, h2]; exact hah1 _ _ h.bk.ahead (by omega)
  ·intro a b e1 e2 e3
   have := h1 a e1
   obtain ⟨a0, e4, e5⟩ := hwW b e2
   have := hwlt a0 e4
   have := h.turn.size
   omega
  ·rw [h1, h2]; exact hah2
 ·obtain ⟨a0, e1, e2⟩ := hwW b e
  rw [e2]
  exact h.bk.sep a0 e1
 ·rcases hG.at_ with h1 | h1
  ·exact hLo ad e (h1.symm.trans e3)
  ·rw [e3] at h1
   injection h1 with h1
   have := hC.last.lt ad e
   omega
 ·have := h.len
  have h16 := hb.out.1
  rw [List.length_append, ← h16]
  omega
 ·have hw : ∀ y ∈ [x.d], y ∈ [x.d] ∨ w.heap.size ≤ y := fun y hy => .inl hy
  exact ((h.turn.trans hT1 hw).trans hT (fun g hg => .inr (h.out.lt (by simpa using hg)).1)).trans hT3 hw
 ·rw [← h.tot, show (m - keep) / 16 = (m' - keep) / 16 + 1 by omega]
  simp only [blkN, List.append_assoc, List.drop_drop]
  rw [show 16 + 16 * ((m' - keep) / 16) = 16 * ((m' - keep) / 16 + 1) by omega]
theorem BI.drew {w wr : World} {x : BX} {W0 L0 : Option Addr} {keep N : Nat} {tot : List UInt8 × List UInt8 × List UInt8} {A2 : Option Addr} {n2 c2 : Nat} {ob : List UInt8} {W : Option Addr} {m cw : Nat} {wait : List UInt8} {L : Option Addr} {nl cl : Nat} {last : List UInt8}
  (h : BI w x W0 L0 keep N tot wr A2 n2 c2 ob W m cw wait L nl cl last) : BI w x W0 L0 keep N tot wr.drew A2 n2 c2 ob W m cw wait L nl cl last := ⟨h.out, h.bk.drew, h.wb, h.lb, h.lo, h.len, h.turn.drew, h.tot⟩
set_option maxHeartbeats 2000000 in
theorem blocks_any_q (x : BX) (keep : Nat) (W : Option Addr) (m cw : Nat) (wait : List UInt8) (L : Option Addr) (nl cl : Nat) (last : List UInt8) (w : World) (h : BkW w x W m cw wait L nl cl last) (hk : keep ≤ 1) (hm : m ≤ 100000) :
  Calls Tryz.prog 97 #[.pointer (some ⟨x.d, 0, none⟩), .int .i64 (keep : Int)] w fun e w' => ∃ A' n' c' W' m' cw' L' nl' cl', e = .returned (.slice A' n' c') ∧ Own w' w.heap.size (.slice A' n' c') (blkN x.mode x.enc x.E x.D ((m - keep) / 16) last wait).1 ∧
   BkW w' x W' m' cw' (wait.drop (16 * ((m - keep) / 16))) L' nl' cl' (blkN x.mode x.enc x.E x.D ((m - keep) / 16) last wait).2 ∧ W'.map Addr.block = W.map Addr.block ∧ From w.heap.size L' L W ∧ Turn [x.d] w w' ∧ (∀ ad, L' = some ad → (Value.slice A' n' c').ownBlock ≠ some ad.block) ∧ n' ≤ m := by
 obtain ⟨tot, htot⟩ : ∃ tot, ((blkN x.mode x.enc x.E x.D ((m - keep) / 16) last wait).1, (blkN x.mode x.enc x.E x.D ((m - keep) / 16) last wait).2, wait.drop (16 * ((m - keep) / 16))) = tot := ⟨_, rfl⟩
 have hst : BI w x W L keep m tot w none 0 0 [] W m cw wait L nl cl last := ⟨Own.nil _ _, h, rfl, fun ad e => .inl ⟨ad, e, rfl⟩, fun ad _ => by simp [Value.ownBlock], by simp, Turn.refl _ _, by rw [List.nil_append]; exact htot⟩
 have hW0 : ∀ ad, W = some ad → ad.block < w.heap.size := fun ad e => h.wait.rd.lt ad e
 have hd : x.d < w.heap.size ∧ x.c < w.heap.size ∧ x.K < w.heap.size := ⟨h.bkc.blk.lt, h.bkc.cip.lt.1, h.bkc.cip.lt.2⟩
 have e1 := congrArg Prod.fst htot
 have e2 := congrArg (fun t => t.2.1) htot
 have e3 := congrArg (fun t => t.2.2) htot
 simp only at e1 e2 e3
 rw [e1, e2, e3]
 have hkw : IntKind.i64.wrap (16 + (keep : Int)) = 16 + (keep : Int) := IntWalk.i64_in _ (by omega)
 have HH := Lib.hid (And.intro hst (And.intro hW0 hd))
 clear hst hW0 hd htot e1 e2 e3 h
 go_enter Tryz.func97, Tryz.ntmps97
 go_wp2_with fail
 refine wp_scope_straight ?_
 go_wp2_with fail
 refine wp_label ?_
 go_wp2_with fail
 go_loopw [5] (fun vo wr => ∃ (A2 : Option Addr) (n2 c2 : Nat) (ob : List UInt8) (W1 : Option Addr) (m1 cw1 : Nat) (wait1 : List UInt8) (L1 : Option Addr) (nl1 cl1 : Nat) (last1 : List UInt8), vo = .slice A2 n2 c2 ∧ BI w x W L keep m tot wr A2 n2 c2 ob W1 m1 cw1 wait1 L1 nl1 cl1 last1) (fun _ wr => waitLen wr x.d)
 case atStart => exact ⟨none, 0, 0, [], W, m, cw, wait, L, nl, cl, last, rfl, HH.out.1⟩
 case round =>
  obtain ⟨A2, n2, c2, ob, W1, m1, cw1, wait1, L1, nl1, cl1, last1, rfl, hI⟩ := hrel
  have y4 := hI.bk.bkc.c4
  have hm1 : m1 ≤ 100000 := by have := hI.len; omega
  by_cases hlt : m1 < 16 + keep
  ·have hlti : (m1 : Int) < 16 + keep := by omega
   have ht := hI.tot
   have hz : (m1 - keep) / 16 = 0 := by omega
   rw [hz] at ht
   simp only [blkN, List.append_nil, Nat.mul_zero, List.drop_zero] at ht
   have HX := Lib.hid (And.intro hI ht)
   clear hI ht hlt hz
   go_wp2_with fail
   try simp only [Exit.noGoto]
   go_ret
   refine ⟨A2, n2, c2, W1, m1, cw1, L1, nl1, cl1, rfl, ?_, ?_, HX.out.1.wb, HX.out.1.lb, HX.out.1.turn, HX.out.1.lo, by have := HX.out.1.len; have := HX.out.1.out.len; omega⟩
   ·rw [← HX.out.2]; exact HX.out.1.out
   ·rw [← HX.out.2]; exact HX.out.1.bk
  ·have hlti : ¬ (m1 : Int) < 16 + keep := by omega
   have hge : 16 + keep ≤ m1 := by omega
   have hs3 := slice_all3 W1 m1 cw1 16 hI.bk.wait.rd.spot (by have := hI.bk.wait.rd.2.1; omega)
   have hr16 := hI.bk.wait.rd.front (k := 16) (by omega)
   have hr16' : Rd wr W1 16 16 (wait1.take 16) := ⟨hr16.1, Nat.le_refl _, by unfold maxLen; omega, by
    rcases hr16.2.2.2 with ⟨e1, e2⟩ | h9
    ·have := hr16.2.1; omega
    ·exact .inr h9⟩
   have hcall := block_any_q x W1 m1 cw1 L1 nl1 cl1 last1 W1 16 (wait1.take 16) wr hI.bk.bkc hr16'
   have hwl := hI.bk.bkc.wl
   have HX := Lib.hid (And.intro hI (And.intro hcall (And.intro hge hwl)))
   clear hI hr16 hr16' hcall hge hlt hwl
   rw [show ((16 : Nat) : Int) = 16 from rfl] at hs3
   go_wp2_with (first | (go_at_call 112; refine HX.out.2.1.mono ?_; rintro e w1 ⟨A', c', rfl, hres⟩; have HR := Lib.hid hres; clear hres) | (at_builtin; refine wp_app2 (.tmp 14) (.tmp 21) w.heap.size (.slice A2 n2 c2) ob (HX.out.1.out.turn HR.out.turn (fun g hg hm => (HX.out.1.out.notin (NoRow.of_bk HX.out.1.bk.bkc)) (by simp at hm; rw [← hm]; exact hg))) (Nat.le_trans HX.out.1.turn.size HR.out.turn.size) A' 16 c' _ HR.out.out (by have := HR.out.out.1; have := HX.out.1.len; omega) rfl rfl rfl rfl ?_; intro A5 n5 c5 w2 hn5 hG; obtain ⟨W', m', cw', L', nl', cl', hm', hs4, hC2, hnx⟩ := HX.out.1.next HH.out.2.1 HH.out.2.2 HX.out.2.2.1 HR.out hG; have z4 := hC2.c4; have f4 := hC2.frozen 4; have HY := Lib.hid (And.intro hnx hm'); clear hC2 hnx hm' hG))
   go_roundw
   case rel => exact ⟨_, _, _, _, _, _, _, _, _, _, _, _, rfl, HY.out.1⟩
   case measure =>
    rw [HX.out.2.2.2, HY.out.1.bk.bkc.wl, HY.out.2]
    have := HX.out.2.2.1
    omega
def stripF (o : List UInt8) : List UInt8 × Int :=
 if 1 ≤ (o.getD 15 0).toNat ∧ (o.getD 15 0).toNat ≤ 16 ∧ o.drop (16 - (o.getD 15 0).toNat) = List.replicate (o.getD 15 0).toNat (UInt8.ofNat (o.getD 15 0).toNat) then (o.take (16 - (o.getD 15 0).toNat), 0) else ([], 64)
def endB (mode : Nat) (enc : Bool) (E D : List UInt8 → List UInt8) (last wait : List UInt8) : List UInt8 × Int :=
 if mode = 3 then
  if enc then ((blkF mode enc E D last (wait ++ List.replicate (16 - wait.length) (UInt8.ofNat (16 - wait.length)))).1, 0)
  else if wait.length = 16 then stripF (blkF mode enc E D last wait).1 else ([], 65)
 else if wait = [] then ([], 0) else if enc then ([], 33) else ([], 65)
theorem padded_any (x : BX) (W : Option Addr) (m cw : Nat) (L : Option Addr) (nl cl : Nat) (last : List UInt8) (w : World) (h : BkC w x W m cw L nl cl last) :
  Calls Tryz.prog 96 #[.pointer (some ⟨x.d, 0, none⟩)] w fun e w' => e = .returned (.bool (decide (x.mode = 3) && !x.enc)) ∧ w = w' := by
 have y0 := h.c0
 have y1 := h.c1
 clear h
 by_cases hm : x.mode = 3
 ·rw [hm] at y0
  rw [hm]
  cases he : x.enc with
  | true =>
   rw [he] at y1
   clear hm he
   go_enter Tryz.func96, Tryz.ntmps96
   go_wp2_with fail
   go_ret
   exact ⟨rfl, rfl⟩
  | false =>
   rw [he] at y1
   clear hm he
   go_enter Tryz.func96, Tryz.ntmps96
   go_wp2_with fail
   go_ret
   exact ⟨rfl, rfl⟩
 ·have hmd : ((x.mode : Int) == 3) = false := by simp; omega
  have hmi : ¬ (x.mode : Int) = 3 := by omega
  have hf : decide (x.mode = 3) = false := decide_eq_false hm
  rw [hf, Bool.false_and]
  clear hm hf
  go_enter Tryz.func96, Tryz.ntmps96
  go_wp2_with fail
  go_ret
  exact ⟨rfl, rfl⟩
def EndB (w : World) (x : BX) (W : Option Addr) (r : List UInt8 × Int) (e : Ending) (w' : World) : Prop :=
 ∃ A n c, e = .returned (.tuple #[.slice A n c, .int .i64 r.2]) ∧ Rd w' A n c r.1 ∧ (∃ W1 m1 cw1 L1 nl1 cl1 last1, BkC w' x W1 m1 cw1 L1 nl1 cl1 last1) ∧ Turn (x.d :: (W.map Addr.block).toList) w w' ∧ n ≤ 16
theorem EndB.nil {w : World} {x : BX} {W : Option Addr} {m cw : Nat} {L : Option Addr} {nl cl : Nat} {last : List UInt8} (h : BkC w x W m cw L nl cl last) (rv : Int) : EndB w x W ([], rv) (.returned (.tuple #[.slice none 0 0, .int .i64 rv])) w :=
 ⟨none, 0, 0, rfl, Rd.nil w, ⟨_, _, _, _, _, _, _, h⟩, Turn.refl _ _, by omega⟩
set_option maxHeartbeats 2000000 in
theorem stripped_any (x : BX) (W : Option Addr) (m cw : Nat) (wait : List UInt8) (L : Option Addr) (nl cl : Nat) (last : List UInt8) (w : World) (h : BkW w x W m cw wait L nl cl last) (hm3 : x.mode = 3) (he : x.enc = false) :
  Calls Tryz.prog 116 #[.pointer (some ⟨x.d, 0, none⟩)] w (EndB w x W (endB x.mode x.enc x.E x.D last wait)) := by
 have y4 := h.bkc.c4
 have hml := h.wait.rd.1
 by_cases hm : m = 16
 ·subst hm
  have hcall := block_any_q x W 16 cw L nl cl last W cw wait w h.bkc h.wait.rd
  have hres : endB x.mode x.enc x.E x.D last wait = stripF (blkF x.mode x.enc x.E x.D last wait).1 := by unfold endB; rw [if_pos hm3, he, if_neg (by decide), if_pos hml.symm]
  obtain ⟨RES, hRES⟩ : ∃ r, endB x.mode x.enc x.E x.D last wait = r := ⟨_, rfl⟩
  rw [hRES] at hres ⊢
  have HH := Lib.hid (And.intro h hcall)
  have HE := Lib.hid hres
  clear h hcall hres hRES hm3 he hml
  go_enter Tryz.func116, Tryz.ntmps116
  go_wp2_with fail
  refine HH.out.2.mono ?_
  rintro e w1 ⟨A', c', rfl, hres⟩
  obtain ⟨o, ho⟩ : ∃ o, (blkF x.mode x.enc x.E x.D last wait).1 = o := ⟨_, rfl⟩
  have hout := hres.out
  rw [ho] at hout
  have hE := HE.out
  rw [ho] at hE
  obtain ⟨L', nl', cl', hC, _⟩ := hres.next
  have hT : Turn (x.d :: (W.map Addr.block).toList) w w1 := hres.turn.more (by simp)
  obtain ⟨bb, ob, rfl, hat⟩ := hout.addr (by decide)
  have hol := hout.1
  have hoc := hout.2.1
  obtain ⟨z, hz⟩ : ∃ z, o[15]? = some z := ⟨_, List.getElem?_eq_getElem (by omega)⟩
  have hzd : o.getD 15 0 = z := by rw [List.getD_eq_getElem?_getD, hz]; rfl
  have y15 := hat.2 15 z hz
  have hcv : (convert 5 3 (B z)).run Tryz.prog w1 = .ok (.int .i64 (z.toNat : Int)) w1 := by
   unfold B
   rw [conv_int w1 .i64 Tryz.underlying5 Tryz.underlying3, IntWalk.i64_in _ (by have := z.toNat_lt; omega)]
  have hst : stripF o = if 1 ≤ z.toNat ∧ z.toNat ≤ 16 ∧ o.drop (16 - z.toNat) = List.replicate z.toNat (UInt8.ofNat z.toNat) then (o.take (16 - z.toNat), 0) else ([], 64) := by unfold stripF; rw [hzd]
  rw [hst] at hE
  obtain ⟨n, hn⟩ : ∃ n, z.toNat = n := ⟨_, rfl⟩
  rw [hn] at hcv hE
  have HE := Lib.hid hE
  clear hE
  have hn256 : n < 256 := by have := z.toNat_lt; omega
  have HX := Lib.hid (And.intro hC (And.intro hT (And.intro hout hol)))
  have hi15 : (15 : Int) < 16 := by omega
  clear hres hC hT hout hat hz hzd hst hn ho HH hol
  by_cases h1 : n < 1
  ·have h1i : (n : Int) < 1 := by omega
   have h1d : decide ((n : Int) < 1) = true := decide_eq_true h1i
   have hE := HE.out
   rw [if_neg (by omega)] at hE
   have HF := Lib.hid hE
   clear hE
   go_wp2_with fail
   refine region_old (by kernel_rfl) (fun wd hHeld hSz => ?_)
   have HSz := Lib.hid hSz
   clear hSz
   have hOd := hHeld
   refine tkS 0 hHeld ?_
   refine tkS 1 hHeld ?_
   refine tkS 2 hHeld ?_
   refine takeL (i := 3) (v := undef) rfl (by kernel_rfl) (by kernel_rfl) (by kernel_rfl) (fun _ _ _ h => h) (Or.inr ⟨by rfl, rfl⟩) hHeld ?_
   try simp only [Act.put, sA, sB, sC]
   refine takeL (i := 4) (v := undef) rfl (by kernel_rfl) (by kernel_rfl) (by kernel_rfl) (fun _ _ _ h => h) (Or.inr ⟨by rfl, rfl⟩) hHeld ?_
   try simp only [Act.put, sA, sB, sC]
   refine tkS 5 hHeld ?_
   refine tkS 6 hHeld ?_
   refine takeL (i := 7) (v := undef) rfl (by kernel_rfl) (by kernel_rfl) (by kernel_rfl) (fun _ _ _ h => h) (Or.inr ⟨by rfl, rfl⟩) hHeld ?_
   try simp only [Act.put, sA, sB, sC]
   refine takeL (i := 8) (v := undef) rfl (by kernel_rfl) (by kernel_rfl) (by kernel_rfl) (fun _ _ _ h => h) (Or.inr ⟨by rfl, rfl⟩) hHeld ?_
   try simp only [Act.put, sA, sB, sC]
   refine takeL (i := 9) (v := undef) rfl (by kernel_rfl) (by kernel_rfl) (by kernel_rfl) (fun _ _ _ h => h) (Or.inr ⟨by rfl, rfl⟩) hHeld ?_
   try simp only [Act.put, sA, sB, sC]
   refine takeL (i := 10) (v := undef) rfl (by kernel_rfl) (by kernel_rfl) (by kernel_rfl) (fun _ _ _ h => h) (Or.inr ⟨by rfl, rfl⟩) hHeld ?_
   try simp only [Act.put, sA, sB, sC]
   refine takeL (i := 11) (v := undef) rfl (by kernel_rfl) (by kernel_rfl) (by kernel_rfl) (fun _ _ _ h => h) (Or.inr ⟨by rfl, rfl⟩) hHeld ?_
   try simp only [Act.put, sA, sB, sC]
   refine takeL (i := 12) (v := undef) rfl (by kernel_rfl) (by kernel_rfl) (by kernel_rfl) (fun _ _ _ h => h) (Or.inr ⟨by rfl, rfl⟩) hHeld ?_
   try simp only [Act.put, sA, sB, sC]
   refine takeL (i := 14) (v := undef) rfl (by kernel_rfl) (by kernel_rfl) (by kernel_rfl) (fun _ _ _ h => h) (Or.inr ⟨by rfl, rfl⟩) hHeld ?_
   try simp only [Act.put, sA, sB, sC]
   refine takeL (i := 13) (v := undef) rfl (by kernel_rfl) (by kernel_rfl) (by kernel_rfl) (fun _ _ _ h => h) (Or.inr ⟨by rfl, rfl⟩) hHeld ?_
   try simp only [Act.put, sA, sB, sC]
   refine takeL (i := 15) (v := undef) rfl (by kernel_rfl) (by kernel_rfl) (by kernel_rfl) (fun _ _ _ h => h) (Or.inr ⟨by rfl, rfl⟩) hHeld ?_
   try simp only [Act.put, sA, sB, sC]
   refine takeL (i := 16) (v := undef) rfl (by kernel_rfl) (by kernel_rfl) (by kernel_rfl) (fun _ _ _ h => h) (Or.inr ⟨by rfl, rfl⟩) hHeld ?_
   try simp only [Act.put, sA, sB, sC]
   refine takeL (i := 17) (v := undef) rfl (by kernel_rfl) (by kernel_rfl) (by kernel_rfl) (fun _ _ _ h => h) (Or.inr ⟨by rfl, rfl⟩) hHeld ?_
   try simp only [Act.put, sA, sB, sC]
   refine tkS 18 hHeld ?_
   refine wpAnyH_done (by kernel_rfl) ?_ _
   refine NoPanic.normal ?_
   simp only [Exit.then]
   go_at_K
   go_wp2_with fail
   refine bodyPost_ret (results_tmp2 rfl _ _ _) rfl ?_
   rw [HF.out]; exact ⟨none, 0, 0, rfl, Rd.nil _, ⟨_, _, _, _, _, _, _, HX.out.1.below hOd⟩, HX.out.2.1.trans (Turn.of_below [] hOd) (by simp), by omega⟩
  ·have h1i : ¬ (n : Int) < 1 := by omega
   have h1d : decide ((n : Int) < 1) = false := decide_eq_false h1i
   by_cases h16 : 16 < n
   ·have h16i : (n : Int) > 16 := by omega
    have h16d : decide ((n : Int) > 16) = true := decide_eq_true h16i
    have hE := HE.out
    rw [if_neg (by omega)] at hE
    have HF := Lib.hid hE
    clear hE
    go_wp2_with fail
    refine region_old (by kernel_rfl) (fun wd hHeld hSz => ?_)
    have HSz := Lib.hid hSz
    clear hSz
    have hOd := hHeld
    refine tkS 0 hHeld ?_
    refine tkS 1 hHeld ?_
    refine tkS 2 hHeld ?_
    refine tkS 3 hHeld ?_
    refine tkS 4 hHeld ?_
    refine tkS 5 hHeld ?_
    refine tkS 6 hHeld ?_
    refine takeL (i := 7) (v := undef) rfl (by kernel_rfl) (by kernel_rfl) (by kernel_rfl) (fun _ _ _ h => h) (Or.inr ⟨by rfl, rfl⟩) hHeld ?_
    try simp only [Act.put, sA, sB, sC]
    refine takeL (i := 8) (v := undef) rfl (by kernel_rfl) (by kernel_rfl) (by kernel_rfl) (fun _ _ _ h => h) (Or.inr ⟨by rfl, rfl⟩) hHeld ?_
    try simp only [Act.put, sA, sB, sC]
    refine takeL (i := 9) (v := undef) rfl (by kernel_rfl) (by kernel_rfl) (by kernel_rfl) (fun _ _ _ h => h) (Or.inr ⟨by rfl, rfl⟩) hHeld ?_
    try simp only [Act.put, sA, sB, sC]
    refine takeL (i := 10) (v := undef) rfl (by kernel_rfl) (by kernel_rfl) (by kernel_rfl) (fun _ _ _ h => h) (Or.inr ⟨by rfl, rfl⟩) hHeld ?_
    try simp only [Act.put, sA, sB, sC]
    refine takeL (i := 11) (v := undef) rfl (by kernel_rfl) (by kernel_rfl) (by kernel_rfl) (fun _ _ _ h => h) (Or.inr ⟨by rfl, rfl⟩) hHeld ?_
    try simp only [Act.put, sA, sB, sC]
    refine takeL (i := 12) (v := undef) rfl (by kernel_rfl) (by kernel_rfl) (by kernel_rfl) (fun _ _ _ h => h) (Or.inr ⟨by rfl, rfl⟩) hHeld ?_
    try simp only [Act.put, sA, sB, sC]
    refine takeL (i := 14) (v := undef) rfl (by kernel_rfl) (by kernel_rfl) (by kernel_rfl) (fun _ _ _ h => h) (Or.inr ⟨by rfl, rfl⟩) hHeld ?_
    try simp only [Act.put, sA, sB, sC]
    refine takeL (i := 13) (v := undef) rfl (by kernel_rfl) (by kernel_rfl) (by kernel_rfl) (fun _ _ _ h => h) (Or.inr ⟨by rfl, rfl⟩) hHeld ?_
    try simp only [Act.put, sA, sB, sC]
    refine takeL (i := 15) (v := undef) rfl (by kernel_rfl) (by kernel_rfl) (by kernel_rfl) (fun _ _ _ h => h) (Or.inr ⟨by rfl, rfl⟩) hHeld ?_
    try simp only [Act.put, sA, sB, sC]
    refine takeL (i := 16) (v := undef) rfl (by kernel_rfl) (by kernel_rfl) (by kernel_rfl) (fun _ _ _ h => h) (Or.inr ⟨by rfl, rfl⟩) hHeld ?_
    try simp only [Act.put, sA, sB, sC]
    refine takeL (i := 17) (v := undef) rfl (by kernel_rfl) (by kernel_rfl) (by kernel_rfl) (fun _ _ _ h => h) (Or.inr ⟨by rfl, rfl⟩) hHeld ?_
    try simp only [Act.put, sA, sB, sC]
    refine tkS 18 hHeld ?_
    refine wpAnyH_done (by kernel_rfl) ?_ _
    refine NoPanic.normal ?_
    simp only [Exit.then]
    go_at_K
    go_wp2_with fail
    refine bodyPost_ret (results_tmp2 rfl _ _ _) rfl ?_
    rw [HF.out]; exact ⟨none, 0, 0, rfl, Rd.nil _, ⟨_, _, _, _, _, _, _, HX.out.1.below hOd⟩, HX.out.2.1.trans (Turn.of_below [] hOd) (by simp), by omega⟩
   ·have h16i : ¬ (n : Int) > 16 := by omega
    have h16d : decide ((n : Int) > 16) = false := decide_eq_false h16i
    have hn1 : 1 ≤ n := by omega
    have hn16 : n ≤ 16 := by omega
    have hsub : IntKind.i64.wrap (16 - (n : Int)) = ((16 - n : Nat) : Int) := by rw [IntWalk.i64_in _ (by omega)]; omega
    obtain ⟨A4, n4, c4, hn4, hS4, hR4, _⟩ := HX.out.2.2.1.cut_ex2 (k := 16 - n) (by omega)
    have hs3 := slice_all3 (some ⟨bb, ob, none⟩) 16 c' (16 - n) (fun ad e => by cases e; rfl) (by omega)
    have hcb := fun W : World => conv_i8 n hn256 W
    have HR := Lib.hid hR4
    have hn4' : n4 = n := by omega
    clear hR4 hn4
    subst hn4'
    go_wp2_with fail
    refine region_old (by kernel_rfl) (fun wd hHeld hSz => ?_)
    have HSz := Lib.hid hSz
    clear hSz
    have hOd := hHeld
    refine tkS 0 hHeld ?_
    refine tkS 1 hHeld ?_
    refine tkS 2 hHeld ?_
    refine tkS 3 hHeld ?_
    refine tkS 4 hHeld ?_
    refine tkS 5 hHeld ?_
    refine tkS 6 hHeld ?_
    refine tkS 7 hHeld ?_
    refine tkS 8 hHeld ?_
    refine tkS 9 hHeld ?_
    refine tkS 10 hHeld ?_ (hy := by intro wq hSw; have hRun := hS4 wq; clear hSw; go_simp; try with_reducible rfl)
    refine tkS 11 hHeld ?_
    refine tkS 12 hHeld ?_ (hy := by intro wq hSw; have hc8 := hcb wq; clear hSw; go_simp; try with_reducible rfl)
    refine tkS 14 hHeld ?_
    refine rdL 13 (fun K hK => ?_)
    go_simp
    refine hK.out _ _ (Old.alloc hHeld _) (fun hHeld => ?_)
    clear hK K
    try simp only [Act.put, sA, sB, sC]
    refine rdL 15 (fun K hK => ?_)
    go_simp
    have hOb := (Old.refl wd).alloc (.cells #[B (UInt8.ofNat n4)] 5)
    refine (repeat_any (UInt8.ofNat n4) n4 hn1 (by omega) _ 1 _ (rd_lit (w := wd) (l2 := [UInt8.ofNat n4]) rfl rfl (by simp))).mono ?_
    rintro e wa ⟨gw, rfl, hRw, hgw, hBw⟩
    refine hK.out _ _ ((Old.alloc hOd _).trans hBw) (fun hHeld => ?_)
    clear hK K
    try simp only [Act.put, sA, sB, sC]
    refine rdL 16 (fun K hK => ?_)
    go_simp
    refine (equalB_any_q _ _ _ _ _ _ _ _ wa (HR.out.below ((Old.alloc hOd _).trans hBw)) hRw).mono ?_
    rintro e wb ⟨rfl, rfl⟩
    refine hK.out _ _ hHeld (fun hHeld => ?_)
    clear hK K
    try simp only [Act.put, sA, sB, sC]
    refine tkS 17 hHeld ?_
    refine tkS 18 hHeld ?_
    refine wpAnyH_done (by kernel_rfl) ?_ _
    refine NoPanic.normal ?_
    have hOa : Old w1 wa := (Old.alloc hOd _).trans hBw
    have HY := Lib.hid (And.intro (HX.out.1.below hOa) (HX.out.2.1.trans (Turn.of_below [] hOa) (by simp)))
    have HO := Lib.hid (HX.out.2.2.1.below hOa)
    clear hOd hHeld hBw hRw hgw
    simp only [Exit.then]
    go_at_K
    cases hde : decide (o.drop (16 - n4) = List.replicate n4 (UInt8.ofNat n4)) with
    | true =>
     have hE := HE.out
     rw [if_pos ⟨hn1, hn16, of_decide_eq_true hde⟩] at hE
     have HF := Lib.hid hE
     clear hE
     go_wp2_with fail
     refine bodyPost_ret (results_tmp2 rfl _ _ _) rfl ?_
     rw [HF.out]
     refine ⟨_, _, _, rfl, ?_, ⟨_, _, _, _, _, _, _, HY.out.1⟩, HY.out.2, by omega⟩
     have := HO.out.front (k := 16 - n4) (by omega)
     exact this.recap (Nat.le_refl _) (by unfold maxLen; omega)
    | false =>
     have hE := HE.out
     rw [if_neg (fun h => (of_decide_eq_false hde) h.2.2)] at hE
     have HF := Lib.hid hE
     clear hE
     go_wp2_with fail
     refine bodyPost_ret (results_tmp2 rfl _ _ _) rfl ?_
     rw [HF.out]; exact ⟨none, 0, 0, rfl, Rd.nil _, ⟨_, _, _, _, _, _, _, HY.out.1⟩, HY.out.2, by omega⟩
 ·have hmi : ¬ (m : Int) = 16 := by omega
  have hmd : ((m : Int) != 16) = true := by simp; omega
  have hres : endB x.mode x.enc x.E x.D last wait = ([], 65) := by unfold endB; rw [if_pos hm3, he, if_neg (by decide), if_neg (by omega)]
  rw [hres]
  have HH := Lib.hid h
  clear h hres hml
  go_enter Tryz.func116, Tryz.ntmps116
  go_wp2_with fail
  refine bodyPost_ret (results_tmp2 rfl _ _ _) rfl ?_
  exact EndB.nil HH.out.bkc 65
theorem region_wordM {P : Program} {ops : Array Oper} {Q : Exit → Act → World → Prop} {id : Nat} {a : Act} {w : World} (S : World → Prop) (hm : P.follows .mixedOrders = true) (h0 : S w.drew)
  (h : Old w w.drew → S w.drew → wpAnyH P .any ops (NoPanic Q) S ops.size (Array.replicate ops.size false) a w.drew) : (Code.region id ops true).wp P Q a w :=
 wp_region_noPanic (wp_region_held_drew hm h0 (h (Old.drew (Old.refl w))))
theorem step_app_O {ops : Array Oper} {o : Oper} {a : Act} {w : World} {K : Act → World → Prop} {Q : Exit → Act → World → Prop} {E : Prop} (s x : Operand) (base : Nat) (A0 : Option Addr) (m0 c0 : Nat) (l : List UInt8) (hown : OwnO w base (.slice A0 m0 c0) l) (hbase : base ≤ w.heap.size)
  (A : Option Addr) (m c : Nat) (l2 : List UInt8) (hrd : Rd w A m c l2) (hlen : l.length + l2.length ≤ 140737488351232) (hgd : o.guard = none)
  (ho : o.op = .call { callee := .builtin .append, args := #[s, x], argTypes := #[32, 32] }) (hs : a.eval s = .slice A0 m0 c0) (hx : a.eval x = .slice A m c)
  (h : ∀ (A' : Option Addr) (n' c' : Nat) (w' : World), GrewO base w w' A0 m0 c0 A' n' c' (l ++ l2) → K (a.put o.dst (.slice A' n' c')) w') :
  if Region.wanted o (yielded ops a.tmps) = true then Oper.wp Tryz.prog o a w K Q else E := by
 rw [if_pos (by simp [Region.wanted, hgd])]
 obtain ⟨A', n', c', w', hrun, hG⟩ := run_app_O w base o.type A0 m0 c0 l hown A m c l2 hrd hlen hbase
 unfold Oper.wp
 simp only [execOp, ho, resolve, invoke, builtin, Sem.run_bind, Sem.run_pure, Result.andThen_ok, List.map_toArray, List.map_cons, List.map_nil, hs, hx, hrun]
 exact h _ _ _ _ hG
theorem Rd.keepO {w w' : World} {base : Nat} {A0 A L : Option Addr} {m0 c0 n c nl cl : Nat} {l last : List UInt8} (hr : Rd w L nl cl last) (hG : GrewO base w w' A0 m0 c0 A n c l) (hs : ∀ ad, A0 = some ad → ad.spot = none) (ha : Ahead L nl A0 c0) : Rd w' L nl cl last := by
 obtain ⟨h1, h2, h3, h4⟩ := hr
 refine ⟨h1, h2, h3, ?_⟩
 rcases h4 with h4 | ⟨b, off, hL, hat⟩
 ·exact .inl h4
 ·refine .inr ⟨b, off, hL, Nat.lt_of_lt_of_le hat.1 hG.turn.size, fun k x hk => ?_⟩
  have hc := hat.2 k x hk
  have hkl : k < last.length := by
   rcases Nat.lt_or_ge k last.length with h | h
   ·exact h
   ·rw [List.getElem?_eq_none h] at hk; cases hk
  by_cases hb : ∃ ad, A0 = some ad ∧ ad.block = b
  ·obtain ⟨ad, e1, e2⟩ := hb
   have hsp := hs ad e1
   obtain ⟨g, o, sp⟩ := ad
   simp only at hsp e2
   subst hsp e2
   refine hG.keep g o e1 _ _ ?_ hc
   rcases ha _ _ hL e1 rfl with h9 | h9
   ·exact .inr h9
   ·left; simp only at h9; omega
  ·refine cell_turn hc hG.turn (fun hm => ?_)
   cases A0 with
   | none => simp at hm
   | some ad => simp at hm; exact hb ⟨ad, rfl, hm.symm⟩
theorem BkW.grow {w w' : World} {x : BX} {W L A : Option Addr} {m cw nl cl n c : Nat} {wait last l : List UInt8} (h : BkW w x W m cw wait L nl cl last) (hG : GrewO 0 w w' W m cw A n c l) : BkC w' x W m cw L nl cl last := by
 have hn : ∀ g, g = x.c ∨ g = x.K ∨ g = x.d → g ∉ (W.map Addr.block).toList := fun g hg hm => by
  cases W with
  | none => simp at hm
  | some ad =>
   simp at hm
   have := h.sep ad rfl
   rcases hg with rfl | rfl | rfl <;> simp [hm] at this
 exact ⟨h.bkc.blk.turn hG.turn (hn _ (.inr (.inr rfl))), h.bkc.cip.turn hG.turn (hn _ (.inl rfl)) (hn _ (.inr (.inl rfl))), h.bkc.last.keepO hG h.wait.rd.spot h.ahead, h.bkc.l16⟩
set_option maxHeartbeats 2000000 in
theorem endB_any (x : BX) (W : Option Addr) (m cw : Nat) (wait : List UInt8) (L : Option Addr) (nl cl : Nat) (last : List UInt8) (w : World) (h : BkW w x W m cw wait L nl cl last) (hm3 : x.mode = 1 ∨ x.mode = 2 ∨ x.mode = 3) (hmw : x.mode = 3 → x.enc = true → m < 16) (hm1 : m ≤ 100000) :
  Calls Tryz.prog 98 #[.pointer (some ⟨x.d, 0, none⟩)] w (EndB w x W (endB x.mode x.enc x.E x.D last wait)) := by
 have y0 := h.bkc.c0
 have y1 := h.bkc.c1
 have y4 := h.bkc.c4
 have hml := h.wait.rd.1
 by_cases hm : x.mode = 3
 ·rw [hm, show ((3 : Nat) : Int) = 3 from rfl] at y0
  cases he : x.enc with
  | true =>
   rw [he] at y1
   have hm16 : m < 16 := hmw hm he
   obtain ⟨k, hk⟩ : ∃ k, 16 - m = k := ⟨_, rfl⟩
   have hk1 : 1 ≤ k := by omega
   have hk16 : k ≤ 16 := by omega
   have hsub : IntKind.i64.wrap (16 - (m : Int)) = ((k : Nat) : Int) := by rw [IntWalk.i64_in _ (by omega)]; omega
   have hres : endB x.mode x.enc x.E x.D last wait = ((blkF x.mode x.enc x.E x.D last (wait ++ List.replicate k (UInt8.ofNat k))).1, 0) := by unfold endB; rw [if_pos hm, he, if_pos rfl, ← hml, hk]
   rw [← he, hres]
   have hcb := fun W : World => conv_i8 k (by omega) W
   have hsep : x.d ∉ (W.map Addr.block).toList := fun hm => by
    cases W with
    | none => simp at hm
    | some ad => simp at hm; exact (h.sep ad rfl).2.2 hm.symm
   have HH := Lib.hid (And.intro h (And.intro hml (And.intro hk hsep)))
   clear h hm he hmw hml hk hres hm3 hsep
   go_enter Tryz.func98, Tryz.ntmps98
   go_wp2_with fail
   refine region_wordM (fun w' => Turn (x.d :: (W.map Addr.block).toList) w w' ∧ w'.cell? ⟨x.d, 4, none⟩ = some (.slice W m cw)) (by kernel_rfl) ⟨Turn.drew (Turn.refl _ _), y4⟩ (fun hOd hHeld => ?_)
   obtain ⟨wd, hwd⟩ : ∃ wd, w.drew = wd := ⟨_, rfl⟩
   rw [hwd] at hOd hHeld ⊢
   refine tkS 0 hHeld ?_
   refine tkS 1 hHeld ?_
   refine tkS 2 hHeld ?_
   refine tkS 3 hHeld ?_
   refine tkS 4 hHeld ?_ (hy := by intro wq hSw; have q4 := hSw.2; clear hSw; go_simp; try with_reducible rfl)
   refine tkS 5 hHeld ?_
   refine tkS 6 hHeld ?_ (hy := by intro wq hSw; have hc8 := hcb wq; clear hSw; go_simp; try with_reducible rfl)
   refine tkS 8 hHeld ?_
   refine rdL 7 (fun K hK => ?_)
   go_simp
   refine hK.out _ _ ⟨Turn.alloc hHeld.1 _, cellOld' ((Old.refl _).alloc _) hHeld.2⟩ (fun hHeld => ?_)
   clear hK K
   try simp only [Act.put, sA, sB, sC]
   refine rdL 9 (fun K hK => ?_)
   go_simp
   refine (repeat_any (UInt8.ofNat k) k hk1 (by omega) _ 1 _ (rd_lit (w := wd) (l2 := [UInt8.ofNat k]) rfl rfl (by simp))).mono ?_
   rintro e wa ⟨gw, rfl, hRw, hgw, hBw⟩
   refine hK.out _ _ ⟨(Turn.alloc (Turn.of_below _ hOd) _).trans (Turn.of_below [] hBw) (by simp), cellOld' ((Old.alloc hOd _).trans hBw) y4⟩ (fun hHeld => ?_)
   clear hK K
   try simp only [Act.put, sA, sB, sC]
   refine rdL 10 (fun K hK => ?_)
   have hOa : Old w wa := (Old.alloc hOd _).trans hBw
   refine step_app_O (.tmp 61) (.tmp 66) 0 W m cw wait (HH.out.1.wait.below hOa) (Nat.zero_le _) _ k k _ hRw (by have := HH.out.2.1; simp; omega) rfl rfl rfl rfl (fun A5 n5 c5 wb hG => ?_)
   have hC5 := (HH.out.1.below hOa).grow hG
   refine hK.out _ _ ⟨(Turn.of_below _ hOa).trans hG.turn (fun y hy => .inl (by simp [hy])), hC5.c4⟩ (fun hHeld => ?_)
   clear hK K
   have hn5 : n5 = 16 := by have := hG.len; have := HH.out.2.1; have := HH.out.2.2.1; simp at *; omega
   subst hn5
   try simp only [Act.put, sA, sB, sC]
   refine rdL 11 (fun K hK => ?_)
   go_simp
   refine (block_any_q x W m cw L nl cl last A5 c5 _ wb hC5 hG.own.rd).mono ?_
   rintro e w6 ⟨A6, c6, rfl, hres⟩
   have HR := Lib.hid (And.intro hHeld.1 hres)
   have hq4 : w6.cell? ⟨x.d, 4, none⟩ = some (.slice W m cw) := by obtain ⟨_, _, _, hC, _⟩ := hres.next; exact hC.c4
   have hq5 : Turn (x.d :: (W.map Addr.block).toList) w w6 := hHeld.1.trans hres.turn (fun y hy => .inl (by simp at hy; simp [hy]))
   refine hK.out _ _ ⟨hq5, hq4⟩ (fun hHeld => ?_)
   clear hK K
   try simp only [Act.put, sA, sB, sC]
   refine rdL 12 (fun K hK => ?_)
   go_simp
   refine hK.out _ _ hHeld (fun hHeld => ?_)
   clear hK K
   try simp only [Act.put, sA, sB, sC]
   refine rdL 13 (fun K hK => ?_)
   go_simp
   refine hK.out _ _ hHeld (fun hHeld => ?_)
   clear hK K
   try simp only [Act.put, sA, sB, sC]
   refine wpAnyH_done (by kernel_rfl) ?_ _
   refine NoPanic.normal ?_
   simp only [Exit.then]
   try go_at_K
   go_wp2_with fail
   refine bodyPost_ret (results_tmp2 rfl _ _ _) rfl ?_
   obtain ⟨L', nl', cl', hC, _⟩ := HR.out.2.next
   exact ⟨_, _, _, rfl, HR.out.2.out, ⟨_, _, _, _, _, _, _, hC⟩, HR.out.1.trans HR.out.2.turn (fun y hy => .inl (by simp at hy; simp [hy])), Nat.le_refl _⟩
  | false =>
   rw [he] at y1
   have hcall := stripped_any x W m cw wait L nl cl last w h hm he
   rw [he] at hcall
   have HH := Lib.hid hcall
   clear h hm he hmw hml hcall hm3
   go_enter Tryz.func98, Tryz.ntmps98
   go_wp2_with fail
   refine HH.out.mono ?_
   rintro e w1 ⟨A, n, c, rfl, h1, h2, h3⟩
   have HR := Lib.hid (And.intro h1 (And.intro h2 h3))
   clear h1 h2 h3
   go_wp2_with fail
   refine bodyPost_ret (results_tmp2 rfl _ _ _) rfl ?_
   exact ⟨_, _, _, rfl, HR.out.1, HR.out.2.1, HR.out.2.2⟩
 ·have h30 : ((x.mode : Int) == 3) = false := by simp; omega
  have h31 : ¬ (x.mode : Int) = 3 := by omega
  have h40 : ((x.mode : Int) == 4) = false := by simp; omega
  have h41 : ¬ (x.mode : Int) = 4 := by omega
  have h50 : ((x.mode : Int) == 5) = false := by simp; omega
  have h51 : ¬ (x.mode : Int) = 5 := by omega
  by_cases hz : m = 0
  ·subst hz
   have hw : wait = [] := List.length_eq_zero_iff.1 hml.symm
   have hres : endB x.mode x.enc x.E x.D last wait = ([], 0) := by unfold endB; rw [if_neg hm, if_pos hw]
   rw [hres]
   have HH := Lib.hid h
   clear h hm hml hm3 hres hmw hw
   go_enter Tryz.func98, Tryz.ntmps98
   go_wp2_with fail
   refine bodyPost_ret (results_tmp2 rfl _ _ _) rfl ?_
   exact EndB.nil HH.out.bkc 0
  ·have hz0 : ((m : Int) == 0) = false := by simp; omega
   have hz1 : ¬ (m : Int) = 0 := by omega
   have hw : wait ≠ [] := fun e => by rw [e] at hml; simp at hml; omega
   cases he : x.enc with
   | true =>
    rw [he] at y1
    have hres : endB x.mode x.enc x.E x.D last wait = ([], 33) := by unfold endB; rw [if_neg hm, if_neg hw, he, if_pos rfl]
    rw [← he, hres]
    have HH := Lib.hid h
    clear h hm hml hm3 hres hmw hw he hz
    go_enter Tryz.func98, Tryz.ntmps98
    go_wp2_with fail
    refine bodyPost_ret (results_tmp2 rfl _ _ _) rfl ?_
    exact EndB.nil HH.out.bkc 33
   | false =>
    rw [he] at y1
    have hres : endB x.mode x.enc x.E x.D last wait = ([], 65) := by unfold endB; rw [if_neg hm, if_neg hw, he, if_neg (by decide)]
    rw [← he, hres]
    have HH := Lib.hid h
    clear h hm hml hm3 hres hmw hw he hz
    go_enter Tryz.func98, Tryz.ntmps98
    go_wp2_with fail
    refine bodyPost_ret (results_tmp2 rfl _ _ _) rfl ?_
    exact EndB.nil HH.out.bkc 65
def tagL (E : List UInt8 → List UInt8) (data out mask : List UInt8) : List UInt8 :=
 xorL (gh (E (zs 16)) (data ++ zs (padM data.length) ++ (out ++ zs (padM out.length)) ++ lenL data.length out.length)) mask
theorem padM_le (k : Nat) : padM k ≤ 15 := by unfold padM; omega
set_option maxHeartbeats 1000000 in
theorem hash_any (d c kb R cp : Nat) (ks : List UInt8) (cs : Array Value) (w : World) (h : Blk w d 139 cs) (h2 : cs[2]? = some (.pointer (some ⟨c, 0, none⟩))) (hc : Cip w 0 c ks kb R cp) :
  Calls Tryz.prog 138 #[.pointer (some ⟨d, 0, none⟩)] w fun e w' => ∃ sb : Nat, e = .returned (.slice (some ⟨sb, 0, none⟩) 16 16) ∧ St w' sb (encL ks R (zs 16)) ∧ Old w w' ∧ w.heap.size ≤ sb := by
 have y2 := h.cell 2
 rw [h2] at y2
 have HH := Lib.hid (And.intro hc h)
 have q2 : ∀ W, Old w W → W.cell? ⟨d, 2, none⟩ = some (.pointer (some ⟨c, 0, none⟩)) := fun W hO => cellOld' hO y2
 have HQ := Lib.hid q2
 clear h h2 hc y2 q2
 go_enter Tryz.func138, Tryz.ntmps138
 go_wp2_with fail
 refine region_old (by kernel_rfl) (fun wd hHeld hSz => ?_)
 have HSz := Lib.hid hSz
 clear hSz
 have hOd := hHeld
 refine tkS 0 hHeld ?_
 refine tkS 1 hHeld ?_
 refine tkS 2 hHeld ?_
 refine tkS 3 hHeld ?_ (hy := by intro wq hSw; have r2 := HQ.out wq hSw; clear hSw; go_simp; try with_reducible rfl)
 refine rdL 4 (fun K hK => ?_)
 have hmk := Tryz.prog_make 16 (by omega) wd
 obtain ⟨w1, hw1⟩ : ∃ w1, wd.alloc (.cells (madeCells #[.int .u8 0] 16) 5) = w1 := ⟨_, rfl⟩
 have hO1 : Own w1 wd.heap.size (.slice (some ⟨wd.heap.size, 0, none⟩) 16 16) (zs 16) := by rw [← hw1]; exact Own.made wd 16 (by unfold maxLen; omega)
 have hB1 : Old wd w1 := by rw [← hw1]; exact (Old.refl _).alloc _
 rw [hw1, show ((16 : Nat) : Int) = 16 from rfl] at hmk
 clear hw1
 go_simp
 refine hK.out _ _ (hHeld.trans hB1) (fun hHeld => ?_)
 clear hK K hmk
 try simp only [Act.put, sA, sB, sC]
 refine rdL 5 (fun K hK => ?_)
 go_simp
 refine (enc_any 0 c ks kb R cp _ _ _ w1 (HH.out.1.below (hOd.trans hB1)) hO1.rd).mono ?_
 rintro e w2 ⟨sb, rfl, hsb, hS, hB⟩
 refine hK.out _ _ (hHeld.trans hB) (fun hHeld => ?_)
 clear hK K
 try simp only [Act.put, sA, sB, sC]
 refine tkS 6 hHeld ?_
 refine wpAnyH_done (by kernel_rfl) ?_ _
 refine NoPanic.normal ?_
 have HR := Lib.hid (And.intro hS (And.intro ((hOd.trans hB1).trans hB) (Nat.le_trans (Nat.le_trans hOd.size hB1.size) hsb)))
 clear hsb hS hB hOd hB1 hO1 hHeld
 simp only [Exit.then]
 try go_at_K
 go_wp2_with fail
 go_ret
 exact ⟨sb, rfl, HR.out.1, HR.out.2.1, HR.out.2.2⟩
theorem Old.trans_below {w w1 w2 : World} (h : Old w w1) (hb : Below w.heap.size w1 w2) : Old w w2 := Below.trans h hb
set_option maxHeartbeats 2000000 in
theorem tag_any (d c kb R cp : Nat) (ks : List UInt8) (cs : Array Value) (M D A : Option Addr) (nm cm nd cd n cn : Nat) (mask data out : List UInt8) (w : World) (h : Blk w d 139 cs) (h2 : cs[2]? = some (.pointer (some ⟨c, 0, none⟩))) (h8 : cs[8]? = some (.slice M nm cm)) (h9 : cs[9]? = some (.slice D nd cd))
  (hc : Cip w 0 c ks kb R cp) (hM : Rd w M nm cm mask) (h16 : nm = 16) (hD : Rd w D nd cd data) (hA : Rd w A n cn out) (hd : nd ≤ 100000) (hn : n ≤ 100000) :
  Calls Tryz.prog 113 #[.pointer (some ⟨d, 0, none⟩), .slice A n cn] w fun e w' => ∃ A' c', e = .returned (.slice A' 16 c') ∧ Own w' w.heap.size (.slice A' 16 c') (tagL (encL ks R) data out mask) ∧ Old w w' := by
 have hdl := hD.1
 have hol := hA.1
 have q8 : ∀ W, Old w W → W.cell? ⟨d, 8, none⟩ = some (.slice M nm cm) := fun W hO => by rw [(h.below hO).cell]; exact h8
 have q9 : ∀ W, Old w W → W.cell? ⟨d, 9, none⟩ = some (.slice D nd cd) := fun W hO => by rw [(h.below hO).cell]; exact h9
 have HH := Lib.hid (And.intro h (And.intro h2 (And.intro hc (And.intro hM (And.intro hD (And.intro hA (And.intro hdl (And.intro hol (And.intro q8 q9)))))))))
 clear h h2 h8 h9 hc hM hD hA hdl hol q8 q9
 subst h16
 go_enter Tryz.func113, Tryz.ntmps113
 go_wp2_with fail
 refine region_old (by kernel_rfl) (fun wd hHeld hSz => ?_)
 have HSz := Lib.hid hSz
 clear hSz
 have hOd := hHeld
 refine tkS 0 hHeld ?_
 refine tkS 1 hHeld ?_
 refine tkS 2 hHeld ?_
 refine tkS 3 hHeld ?_ (hy := by intro wq hSw; have r9 := HH.out.2.2.2.2.2.2.2.2.2 wq hSw; clear hSw; go_simp; try with_reducible rfl)
 refine tkS 5 hHeld ?_
 refine tkS 8 hHeld ?_
 refine tkS 9 hHeld ?_
 refine tkS 10 hHeld ?_
 refine tkS 11 hHeld ?_ (hy := by intro wq hSw; have r9 := HH.out.2.2.2.2.2.2.2.2.2 wq hSw; clear hSw; go_simp; try with_reducible rfl)
 refine tkS 12 hHeld ?_
 refine tkS 13 hHeld ?_
 refine tkS 14 hHeld ?_
 refine rdL 4 (fun K hK => ?_)
 go_simp
 refine (filled_any D nd cd data wd (HH.out.2.2.2.2.1.below hOd) (by have := HH.out.2.2.2.2.2.2.1; omega)).mono ?_
 rintro e w1 ⟨A1, n1, c1, rfl, ho1, hB1⟩
 refine hK.out _ _ (hHeld.trans hB1) (fun hHeld => ?_)
 clear hK K
 try simp only [Act.put, sA, sB, sC]
 refine rdL 6 (fun K hK => ?_)
 go_simp
 refine (filled_any A n cn out w1 ((HH.out.2.2.2.2.2.1.below hOd).below hB1) (by have := HH.out.2.2.2.2.2.2.2.1; omega)).mono ?_
 rintro e w2 ⟨A2, n2, c2, rfl, ho2, hB2⟩
 refine hK.out _ _ (hHeld.trans hB2) (fun hHeld => ?_)
 clear hK K
 try simp only [Act.put, sA, sB, sC]
 refine rdL 7 (fun K hK => ?_)
 have hd1 : data.length ≤ 100000 ∧ out.length ≤ 100000 := ⟨by have := HH.out.2.2.2.2.2.2.1; omega, by have := HH.out.2.2.2.2.2.2.2.1; omega⟩
 have hz : data ++ zs (padM data.length) ++ (out ++ zs (padM out.length)) ++ lenL nd n = data ++ zs (padM data.length) ++ (out ++ zs (padM out.length)) ++ lenL data.length out.length := by rw [HH.out.2.2.2.2.2.2.1, HH.out.2.2.2.2.2.2.2.1]
 refine step_app2 (.tmp 10) (.tmp 12) w.heap.size (.slice A1 n1 c1) _ ((ho1.mono hOd.size).below hB2) (Nat.le_trans hOd.size (Nat.le_trans hB1.size hB2.size)) A2 n2 c2 _ ho2.rd (by have a1 := padM_le data.length; have a2 := padM_le out.length; simp only [List.length_append, zs_len]; omega) rfl rfl rfl rfl (fun A3 n3 c3 w3 hn3 hG3 => ?_)
 have hO3 : Old w w3 := ((hOd.trans hB1).trans hB2).trans_below hG3.below
 refine hK.out _ _ hO3 (fun hHeld => ?_)
 clear hK K
 try simp only [Act.put, sA, sB, sC]
 refine rdL 15 (fun K hK => ?_)
 go_simp
 refine (lengths_any nd n w3 (by omega) (by omega)).mono ?_
 rintro e w4 ⟨v4, rfl, ho4, hB4⟩
 obtain ⟨A4, c4, rfl, _⟩ := ho4.shape
 refine hK.out _ _ (hHeld.trans hB4) (fun hHeld => ?_)
 clear hK K
 try simp only [Act.put, sA, sB, sC]
 refine rdL 16 (fun K hK => ?_)
 refine step_app2 (.tmp 13) (.tmp 21) w.heap.size (.slice A3 n3 c3) _ (hG3.own.below hB4) (Nat.le_trans hO3.size hB4.size) A4 (lenL nd n).length c4 _ ho4.rd (by have a1 := padM_le data.length; have a2 := padM_le out.length; simp only [List.length_append, zs_len, lenL, bytes64, List.length_cons, List.length_nil]; omega) rfl rfl rfl rfl (fun A5 n5 c5 w5 hn5 hG5 => ?_)
 have hO5 : Old w w5 := (hO3.trans hB4).trans_below hG5.below
 refine hK.out _ _ hO5 (fun hHeld => ?_)
 clear hK K
 try simp only [Act.put, sA, sB, sC]
 refine tkS 17 hHeld ?_
 refine wpAnyH_done (by kernel_rfl) ?_ _
 refine NoPanic.normal ?_
 have HX := Lib.hid (And.intro hG5.own (And.intro hO5 hz))
 clear hd1 ho1 hB1 ho2 hB2 hG3 hO3 ho4 hB4 hG5 hO5 hHeld hOd HSz hz
 simp only [Exit.then]
 try go_at_K
 go_wp2_with fail
 refine region_old (by kernel_rfl) (fun wd hHeld hSz => ?_)
 have HSz := Lib.hid hSz
 clear hSz
 have hOd := hHeld
 refine tkS 0 hHeld ?_
 refine tkS 2 hHeld ?_
 refine tkS 4 hHeld ?_
 refine tkS 5 hHeld ?_
 refine tkS 6 hHeld ?_
 refine tkS 7 hHeld ?_ (hy := by intro wq hSw; have r8 := HH.out.2.2.2.2.2.2.2.2.1 wq (HX.out.2.1.trans hSw); clear hSw; go_simp; try with_reducible rfl)
 refine rdL 1 (fun K hK => ?_)
 go_simp
 refine (hash_any d c kb R cp ks cs wd ((HH.out.1.below HX.out.2.1).below hOd) HH.out.2.1 ((HH.out.2.2.1.below HX.out.2.1).below hOd)).mono ?_
 rintro e w7 ⟨sb, rfl, hS7, hB7, hsb7⟩
 refine hK.out _ _ (hHeld.trans hB7) (fun hHeld => ?_)
 clear hK K
 try simp only [Act.put, sA, sB, sC]
 refine rdL 3 (fun K hK => ?_)
 go_simp
 refine (gh_any _ _ _ _ _ _ _ w7 hS7.rd ((HX.out.1.below hOd).below hB7).rd).mono ?_
 rintro e w8 ⟨g8, c8, rfl, ho8, hB8⟩
 refine hK.out _ _ (hHeld.trans hB8) (fun hHeld => ?_)
 clear hK K
 try simp only [Act.put, sA, sB, sC]
 refine rdL 8 (fun K hK => ?_)
 go_simp
 have hsz9 : w.heap.size ≤ w8.heap.size := Nat.le_trans HX.out.2.1.size (Nat.le_trans hOd.size (Nat.le_trans hB7.size hB8.size))
 refine (xored_any _ M 16 c8 16 cm _ mask w8 ho8.rd ((((HH.out.2.2.2.1.below HX.out.2.1).below hOd).below hB7).below hB8) (Nat.le_refl _) (by omega)).mono ?_
 rintro e w9 ⟨rfl, hO9, hB9⟩
 refine hK.out _ _ (hHeld.trans hB9) (fun hHeld => ?_)
 clear hK K
 try simp only [Act.put, sA, sB, sC]
 refine tkS 9 hHeld ?_
 refine wpAnyH_done (by kernel_rfl) ?_ _
 refine NoPanic.normal ?_
 have HY := Lib.hid (And.intro hO9 (And.intro ((((HX.out.2.1.trans hOd).trans hB7).trans hB8).trans hB9) hsz9))
 clear hO9 hB9 hB8 hB7 hHeld hOd HSz
 simp only [Exit.then]
 try go_at_K
 go_wp2_with fail
 go_ret
 refine ⟨_, _, rfl, ?_, HY.out.2.1⟩
 have := HY.out.1.mono HY.out.2.2
 rw [HX.out.2.2] at this
 exact this
structure GX where
 d : Nat
 c : Nat
 K : Nat
 R : Nat
 cp : Nat
 ks : List UInt8
 mode : Nat
 enc : Bool
 gc : Nat
 oc : Nat
 cc : Nat
 wd : Nat
def stG (x : GX) (W P M D O : Value) (over : Bool) : Array Value := #[.int .i64 (x.mode : Int), .bool x.enc, .pointer (some ⟨x.c, 0, none⟩), .slice none 0 0, W, .slice (some ⟨x.gc, x.oc, none⟩) 16 x.cc, .int .i64 (x.wd : Int), P, M, D, O, .bool over]
def GX.E (x : GX) : List UInt8 → List UInt8 := encL x.ks x.R
def GX.cx (x : GX) (W M D O : Value) : CX := ⟨x.d, x.gc, x.oc, x.cc, x.c, x.K, x.R, x.cp, x.wd, x.ks, stG x W (.slice none 0 0) M D O false⟩
structure Vw where
 A : Option Addr
 n : Nat
 c : Nat
 l : List UInt8
def Vw.v (s : Vw) : Value := .slice s.A s.n s.c
def Vw.rd (w : World) (s : Vw) : Prop := Rd w s.A s.n s.c s.l
def nilW : Vw := ⟨none, 0, 0, []⟩
def Apart (A C : Option Addr) : Prop := ∀ a b, A = some a → C = some b → a.block ≠ b.block
theorem Apart.none_l (C : Option Addr) : Apart none C := fun a b h => by cases h
theorem Apart.none_r (A : Option Addr) : Apart A none := fun a b _ h => by cases h
structure GcAt (w : World) (x : GX) (W : Vw) (ctr : List UInt8) (P M D O : Vw) : Prop where
 cnt : CntAt w (x.cx W.v M.v D.v O.v) ctr P.A P.n P.c P.l
 wait : OwnO w 0 W.v W.l
 mask : M.rd w
 m16 : x.mode = 5 → M.n = 16
 data : D.rd w
 out : Own w 0 O.v O.l
 sg : ∀ ad, (W.A = some ad ∨ M.A = some ad ∨ D.A = some ad ∨ O.A = some ad) → ad.block ≠ x.gc
 sw : ∀ ad, (W.A = some ad ∨ O.A = some ad) → ad.block ≠ x.d ∧ ad.block ≠ x.c ∧ ad.block ≠ x.K
 aw : Apart W.A P.A ∧ Apart W.A M.A ∧ Apart W.A D.A ∧ Apart W.A O.A
 ao : Apart O.A P.A ∧ Apart O.A M.A ∧ Apart O.A D.A
def gcmJ (E : List UInt8 → List UInt8) (p : List UInt8) : List UInt8 :=
 if (p.getD 0 0).toNat = 12 then (p.drop 1).take 12 ++ [0, 0, 0, 1]
 else gh (E (zs 16)) ((p.drop 1).take (p.getD 0 0).toNat ++ zs (padM (p.getD 0 0).toNat) ++ lenL 0 (p.getD 0 0).toNat)
def gcmOk (p : List UInt8) : Prop := 2 ≤ p.length ∧ 1 ≤ (p.getD 0 0).toNat ∧ 1 + (p.getD 0 0).toNat ≤ p.length
instance (p : List UInt8) : Decidable (gcmOk p) := by unfold gcmOk; infer_instance
def st0 (mode : Nat) (enc : Bool) (c : Nat) : Array Value := stB mode enc c (.slice none 0 0) (.slice none 0 0) false
structure GM (w : World) (d c : Nat) (enc : Bool) (DV : Value) (j : List UInt8) (wx : World) (gc cc : Nat) : Prop where
 blk : Blk wx d 139 #[.int .i64 5, .bool enc, .pointer (some ⟨c, 0, none⟩), .slice none 0 0, .slice none 0 0, .slice (some ⟨gc, 0, none⟩) 16 cc, .int .i64 0, .slice none 0 0, .slice none 0 0, DV, .slice none 0 0, .bool false]
 ctr : CtrAt wx gc 0 j
 new : w.heap.size ≤ gc
 c16 : 16 ≤ cc
 ccm : cc ≤ maxLen
 turn : Turn [d] w wx
theorem isN0 (z : UInt8) : isN z 0 = decide (z.toNat = 0) := by
 unfold isN
 by_cases h : z.toNat = 0
 ·rw [h]; rfl
 ·rw [decide_eq_false h]; simp only [beq_eq_false_iff_ne, ne_eq]; omega
theorem conv_Bi (z : UInt8) (W : World) : (convert 5 3 (B z)).run Tryz.prog W = .ok (.int .i64 (z.toNat : Int)) W := by
 unfold B
 rw [conv_int W .i64 Tryz.underlying5 Tryz.underlying3, IntWalk.i64_in _ (by have := z.toNat_lt; omega)]
theorem gcm_no (d : Nat) (cs : Array Value) (A : Option Addr) (m cm : Nat) (p : List UInt8) (w : World) (_h : Blk w d 139 cs) (hp : Rd w A m cm p) (hm : m ≤ 2000000) (hn : ¬ gcmOk p) :
  Calls Tryz.prog 108 #[.pointer (some ⟨d, 0, none⟩), .slice A m cm] w fun e w' => e = .returned (.bool false) ∧ w = w' := by
 have hml := hp.1
 by_cases h2 : m < 2
 ·have h2i : (m : Int) < 2 := by omega
  have h2d : decide ((m : Int) < 2) = true := decide_eq_true h2i
  clear _h hp hn hml
  go_enter Tryz.func108, Tryz.ntmps108
  go_wp2_with fail
  go_ret
  exact ⟨rfl, rfl⟩
 ·have h2i : ¬ (m : Int) < 2 := by omega
  have h2d : decide ((m : Int) < 2) = false := decide_eq_false h2i
  obtain ⟨b, off, rfl, hat⟩ := hp.addr (by omega)
  obtain ⟨z, hz⟩ : ∃ z, p[0]? = some z := ⟨_, List.getElem?_eq_getElem (by omega)⟩
  have hzd : p.getD 0 0 = z := by rw [List.getD_eq_getElem?_getD, hz]; rfl
  have y0 := hat.2 0 z hz
  rw [Nat.add_zero] at y0
  have hz0 := isN0 z
  have hcv := conv_Bi z w
  obtain ⟨n, hzn⟩ : ∃ n, z.toNat = n := ⟨_, rfl⟩
  have hn256 : n < 256 := by have := z.toNat_lt; omega
  have hm0 : (0 : Int) < m := by omega
  unfold gcmOk at hn
  rw [hzd, hzn] at hn
  rw [hzn] at hz0 hcv
  by_cases h0 : n = 0
  ·rw [decide_eq_true h0] at hz0
   clear _h hp hn hml hat hz hzd hcv hzn h0
   go_enter Tryz.func108, Tryz.ntmps108
   go_wp2_with fail
   go_ret
   exact ⟨rfl, rfl⟩
  ·rw [decide_eq_false h0] at hz0
   have hw1 : IntKind.i64.wrap (1 + (n : Int)) = 1 + (n : Int) := IntWalk.i64_in _ (by omega)
   have hlt : (m : Int) < 1 + n := by omega
   have hltd : decide ((m : Int) < 1 + n) = true := decide_eq_true hlt
   clear _h hp hn hml hat hz hzd hzn h0
   go_enter Tryz.func108, Tryz.ntmps108
   go_wp2_with fail
   go_ret
   exact ⟨rfl, rfl⟩
theorem st0_blk {w : World} {d c : Nat} {enc : Bool} (h : Blk w d 139 (st0 5 enc c)) (DV : Value) : Blk (w.setCell ⟨d, 9, none⟩ DV) d 139 #[.int .i64 5, .bool enc, .pointer (some ⟨c, 0, none⟩), .slice none 0 0, .slice none 0 0, .slice none 0 0, .int .i64 0, .slice none 0 0, .slice none 0 0, DV, .slice none 0 0, .bool false] := h.set_ 9 DV
set_option maxHeartbeats 4000000 in
theorem gcm_any (d c kb R cp : Nat) (enc : Bool) (ks : List UInt8) (A : Option Addr) (m cm : Nat) (p : List UInt8) (w : World) (h : Blk w d 139 (st0 5 enc c)) (hc : Cip w 0 c ks kb R cp) (hp : Own w 0 (.slice A m cm) p) (hm : m ≤ 2000000) (hok : gcmOk p) :
  Calls Tryz.prog 108 #[.pointer (some ⟨d, 0, none⟩), .slice A m cm] w fun e w' => e = .returned (.bool true) ∧ ∃ (gc cc : Nat) (M D : Vw), GcAt w' ⟨d, c, kb, R, cp, ks, 5, enc, gc, 0, cc, 32⟩ nilW (stepL 32 (gcmJ (encL ks R) p)) nilW M D nilW ∧
   M.l = encL ks R (gcmJ (encL ks R) p) ∧ D.l = p.drop (1 + (p.getD 0 0).toNat) ∧ w.heap.size ≤ gc ∧ (∀ ad, M.A = some ad → w.heap.size ≤ ad.block) ∧ (∀ ad, D.A = some ad → ∃ a0, A = some a0 ∧ ad.block = a0.block) ∧ Turn [d] w w' := by
 have hml := hp.len
 obtain ⟨h2, h3, h4⟩ := hok
 obtain ⟨g, cm', e⟩ := hp.form (by intro e; injection e with _ e2 _; omega)
 injection e with e1 e2 e3
 subst e1 e3
 clear e2
 obtain ⟨z, hz⟩ : ∃ z, p[0]? = some z := ⟨_, List.getElem?_eq_getElem (by omega)⟩
 have hzd : p.getD 0 0 = z := by rw [List.getD_eq_getElem?_getD, hz]; rfl
 have y0 : ∀ W, Old w W → W.cell? ⟨g, 0, none⟩ = some (B z) := fun W hO => by have := (hp.below hO).at_.2 0 z hz; rwa [Nat.add_zero] at this
 have hz0 := isN0 z
 have hcv := conv_Bi z
 obtain ⟨n, hzn⟩ : ∃ n, z.toNat = n := ⟨_, rfl⟩
 obtain ⟨J, hJ⟩ : ∃ J, gcmJ (encL ks R) p = J := ⟨_, rfl⟩
 rw [hJ]
 unfold gcmJ at hJ
 rw [hzd, hzn] at hJ h3 h4 ⊢
 rw [hzn] at hz0 hcv
 rw [decide_eq_false (by omega)] at hz0
 have hn256 : n < 256 := by have := z.toNat_lt; omega
 have hm0 : (0 : Int) < m := by omega
 have h2i : ¬ (m : Int) < 2 := by omega
 have h2d : decide ((m : Int) < 2) = false := decide_eq_false h2i
 have hw1 : IntKind.i64.wrap (1 + (n : Int)) = ((1 + n : Nat) : Int) := by rw [IntWalk.i64_in _ (by omega)]; omega
 have hlt : ¬ (m : Int) < ((1 + n : Nat) : Int) := by omega
 have hltd : decide ((m : Int) < ((1 + n : Nat) : Int)) = false := decide_eq_false hlt
 have hmc := hp.rd.2.1
 have hsb := fun W : World => slice_both (some ⟨g, 0, none⟩) m cm 1 (1 + n) (by omega) (by omega) W
 rw [if_neg (by omega), Nat.add_sub_cancel_left, show ((1 : Nat) : Int) = 1 from rfl] at hsb
 simp only [Option.map_some, Addr.add_mid, Nat.zero_add] at hsb
 have hiv : Rd w (some ⟨g, 1, none⟩) n (cm - 1) ((p.drop 1).take n) := by
  have h1 := hp.rd.cut (k := 1) (by omega)
  rw [if_neg (by omega)] at h1
  simp only [Option.map_some, Addr.add_mid, Nat.zero_add] at h1
  have h2 := h1.front (k := n) (by omega)
  exact h2
 have hR4 := hp.rd.cut (k := 1 + n) (by omega)
 simp only [Option.map_some, Addr.add_mid, Nat.zero_add] at hR4
 obtain ⟨A4, hA4⟩ : ∃ A4, (if cm = 1 + n then some (⟨g, 0, none⟩ : Addr) else some ⟨g, 1 + n, none⟩) = A4 := ⟨_, rfl⟩
 obtain ⟨n4, hn4⟩ : ∃ n4, m - (1 + n) = n4 := ⟨_, rfl⟩
 obtain ⟨c4, hc4⟩ : ∃ c4, cm - (1 + n) = c4 := ⟨_, rfl⟩
 rw [hA4, hn4, hc4] at hR4
 have hB4 : ∀ ad, A4 = some ad → ∃ a0, some (⟨g, 0, none⟩ : Addr) = some a0 ∧ ad.block = a0.block := fun ad e => by
  rw [← hA4] at e
  split at e <;> (cases e; exact ⟨_, rfl, rfl⟩)
 have HN4 := Lib.hid (And.intro hA4 (And.intro hn4 hc4))
 clear hA4 hn4 hc4
 have hNd : NoB w d := NoB.of h rfl
 have y0' := y0 w (Old.refl _)
 have f9 := h.frozen 9
 have y9 := h.cell 9
 simp only [st0, stB, List.getElem?_toArray, List.getElem?_cons_zero, List.getElem?_cons_succ] at y9
 have HH := Lib.hid (And.intro h (And.intro hc (And.intro hp (And.intro hml (And.intro hJ (And.intro hiv (And.intro hR4 (And.intro hB4 hNd))))))))
 have HY := Lib.hid (And.intro y0 (And.intro hzn hz))
 clear h hc hml hJ hiv hR4 hB4 hNd y0 hzn hz hzd hp h2 h3 h4
 go_enter Tryz.func108, Tryz.ntmps108
 go_upto_if 44 with fail
 rw [HN4.out.1, HN4.out.2.1, HN4.out.2.2, Nat.add_sub_cancel_left]
 have hBA := st0_blk HH.out.1 (.slice A4 n4 c4)
 have hTA : Turn [d] w (w.setCell ⟨d, 9, none⟩ (.slice A4 n4 c4)) := turn_put
 obtain ⟨wA, hwA⟩ : ∃ wA, w.setCell ⟨d, 9, none⟩ (.slice A4 n4 c4) = wA := ⟨_, rfl⟩
 rw [hwA] at hBA hTA ⊢
 have hNs : ∀ g ∈ [d], NoB w g := fun g hg => by simp at hg; subst hg; exact HH.out.2.2.2.2.2.2.2.2
 have hivA := HH.out.2.2.2.2.2.1.turnB hTA hNs
 have hcA : Cip wA 0 c ks kb R cp := HH.out.2.1.turn hTA (by simp; exact (HH.out.2.1.nd HH.out.1 HH.out.2.2.2.2.2.2.2.2).1) (by simp; exact (HH.out.2.1.nd HH.out.1 HH.out.2.2.2.2.2.2.2.2).2)
 have hrA := HH.out.2.2.2.2.2.2.1.turnB hTA hNs
 have HA := Lib.hid (And.intro hBA (And.intro hTA (And.intro hivA (And.intro hcA hrA))))
 have hfin : ∀ (w2 : World) (A6 : Option Addr) (n6 c6 : Nat) (base : Nat), Old wA w2 → w.heap.size ≤ base → Own w2 base (.slice A6 n6 c6) J → J.length = 16 → ∃ gc, A6 = some ⟨gc, 0, none⟩ ∧ n6 = 16 ∧ GM w d c enc (.slice A4 n4 c4) J (w2.setCell ⟨d, 5, none⟩ (.slice A6 n6 c6)) gc c6 := fun w2 A6 n6 c6 base hO hbs hown h16 => by
  have hl := hown.len
  obtain ⟨g6, c6', e6⟩ := hown.form (by intro e; injection e with _ e2 _; omega)
  injection e6 with e7 e8 e9
  subst e7
  obtain rfl : n6 = 16 := hl.trans h16
  have hge := hown.addr_ge _ rfl
  have hB2 := Blk.below HA.out.1 hO
  have hne : g6 ≠ d := fun e => by have := HH.out.1.lt; simp only at hge; omega
  refine ⟨g6, rfl, rfl, ⟨?_, ?_, Nat.le_trans hbs hge, hown.rd.2.1, hown.rd.2.2.1, HA.out.2.1.trans ((Turn.of_below [d] hO).trans turn_put (fun y hy => .inl hy)) (fun y hy => .inl hy)⟩⟩
  ·exact hB2.set_ 5 _
  ·have hc2 := CtrAt.of_own hown 0 rfl
   rw [List.drop_zero] at hc2
   exact hc2.turn (turn_put (d := d)) (by simp; exact hne)
 have HF := Lib.hid hfin
 have hwAs : w.heap.size ≤ wA.heap.size := hTA.size
 clear hBA hTA hNs hivA hcA hrA hfin hwA
 go_cut [] from 6 to 64 (fun wx => ∃ gc cc : Nat, GM w d c enc (.slice A4 n4 c4) J wx gc cc)
 case first =>
  by_cases h12 : n = 12
  ·have hb12 : ((n : Int) == 12) = true := by rw [h12]; rfl
   have hJ := HH.out.2.2.2.2.1
   rw [if_pos h12] at hJ
   have h16 : J.length = 16 := by
    have := HA.out.2.2.1.1
    rw [h12] at this
    rw [← hJ, List.length_append, ← this]
    rfl
   have h1 := HA.out.2.2.1
   rw [show (p.drop 1).take n = (p.drop 1).take 12 by rw [h12]] at h1
   have HJ := Lib.hid (And.intro hJ (And.intro h16 h1))
   clear hJ h16 h1 h12
   go_wp2_with (first | (go_at_call 43; refine (clone_own_q _ n _ _ wA HJ.out.2.2 (by omega)).mono ?_; rintro e w1 ⟨A5, n5, c5, rfl, ho5, hB5⟩; have H5 := Lib.hid (And.intro ho5 hB5); clear ho5 hB5) | (at_builtin; refine wp_app_lit (.tmp 47) (.tmp 48) wA.heap.size (.slice A5 n5 c5) _ H5.out.1 H5.out.2.size [0, 0, 0, 1] (by have := H5.out.1.len; have := HJ.out.2.2.1; omega) (by simp) rfl rfl rfl rfl rfl rfl ?_; intro A6 n6 c6 w2 hn6 hG; have hO6 : Old wA w2 := H5.out.2.trans ((Below.refl _ _).alloc H5.out.2.size _ |>.trans hG.below); have hO7 := hG.own; rw [HJ.out.1] at hO7; have hB6 := Blk.below HA.out.1 hO6; have f5 := hB6.frozen 5; have y5 := hB6.cell 5; simp only [List.getElem?_toArray, List.getElem?_cons_zero, List.getElem?_cons_succ] at y5; have H6 := Lib.hid (And.intro hO6 hO7); clear hO6 hO7 hB6 hG))
   go_meet
   case rel =>
    obtain ⟨gc, e1, e2, hGM⟩ := HF.out w2 A6 n6 c6 _ H6.out.1 hwAs H6.out.2 HJ.out.2.1
    exact ⟨gc, c6, hGM⟩
  ·have hb12 : ((n : Int) == 12) = false := by simp; omega
   have hn12 : ¬ (n : Int) = 12 := by omega
   have hJ := HH.out.2.2.2.2.1
   rw [if_neg h12] at hJ
   have HJ := Lib.hid hJ
   clear hJ h12
   have hlen16 : ∀ a b : List UInt8, (gh a b).length = 16 := fun a b => by unfold gh; simp [wr16, bytes64]
   have HL := Lib.hid hlen16
   clear hlen16
   go_wp2_with (first | (go_at_call 138; refine (hash_any d c kb R cp ks _ wA HA.out.1 rfl HA.out.2.2.2.1).mono ?_; rintro e w1 ⟨sb, rfl, hS1, hB1, hsb1⟩; have H1 := Lib.hid (And.intro hS1 hB1); clear hS1 hB1 hsb1) | (go_at_call 139; refine (filled_any _ n _ _ w1 (HA.out.2.2.1.below H1.out.2) (by have := HA.out.2.2.1.1; omega)).mono ?_; rintro e w2 ⟨A2, n2, c2, rfl, ho2, hB2⟩; have H2 := Lib.hid (And.intro ho2 hB2); clear ho2 hB2) | (go_at_call 140; refine (lengths_any 0 n w2 (by omega) (by omega)).mono ?_; rintro e w3 ⟨v3, rfl, ho3, hB3⟩; obtain ⟨A3, c3, rfl, _⟩ := ho3.shape; have H3 := Lib.hid (And.intro ho3 hB3); clear ho3 hB3) | (at_builtin; refine wp_app2 (.tmp 56) (.tmp 59) w1.heap.size (.slice A2 n2 c2) _ (H2.out.1.below H3.out.2) (Nat.le_trans H2.out.2.size H3.out.2.size) A3 (lenL 0 n).length c3 _ H3.out.1.rd (by have := HA.out.2.2.1.1; have a1 := padM_le ((p.drop 1).take n).length; simp only [List.length_append, zs_len, lenL, bytes64, List.length_cons, List.length_nil]; omega) rfl rfl rfl rfl ?_; intro A5 n5 c5 w5 hn5 hG; have H5 := Lib.hid hG; clear hG) | (go_at_call 137; have hS5 : Rd w5 (some ⟨sb, 0, none⟩) 16 16 (encL ks R (zs 16)) := (H1.out.1.rd.below (Old.trans H2.out.2 H3.out.2)).keep H5.out.below.size (fun ad had => H5.out.below.block _ (by cases had; exact H1.out.1.lt)); refine (gh_any _ _ _ _ _ _ _ w5 hS5 H5.out.own.rd).mono ?_; rintro e w6 ⟨g6, c6, rfl, ho6, hB6⟩; have hO6 : Old wA w6 := ((Old.trans (Old.trans H1.out.2 H2.out.2) H3.out.2).trans_below (H5.out.below.mono H1.out.2.size)).trans hB6; have hB7 := Blk.below HA.out.1 hO6; have f5 := hB7.frozen 5; have y5 := hB7.cell 5; simp only [List.getElem?_toArray, List.getElem?_cons_zero, List.getElem?_cons_succ] at y5; have H6 := Lib.hid (And.intro ho6 hO6); clear ho6 hO6 hB7 hB6 hS5))
   go_meet
   case rel =>
    have hJ2 : Own w6 w5.heap.size (.slice (some ⟨g6, 0, none⟩) 16 c6) J := by
     have e := HJ.out
     have hl : ((p.drop 1).take n).length = n := HA.out.2.2.1.1.symm
     rw [hl] at H6
     rw [← e]
     exact H6.out.1
    have h16 : J.length = 16 := hJ2.len.symm
    have hs5 : w.heap.size ≤ w5.heap.size := by have := H1.out.2.size; have := H5.out.below.size; have := H2.out.2.size; have := H3.out.2.size; omega
    obtain ⟨gc, e1, e2, hGM⟩ := HF.out w6 _ _ c6 _ H6.out.2 hs5 hJ2 h16
    exact ⟨gc, c6, hGM⟩
 case rest =>
  obtain ⟨gc, cc, hGM⟩ := hcut
  have y6 := hGM.blk.cell 6
  have f6 := hGM.blk.frozen 6
  simp only [List.getElem?_toArray, List.getElem?_cons_zero, List.getElem?_cons_succ] at y6
  have hB8 := hGM.blk.set_ 6 (.int .i64 32)
  have hT8 : Turn [d] w (wc.setCell ⟨d, 6, none⟩ (.int .i64 32)) := hGM.turn.trans turn_put (fun y hy => .inl hy)
  have hgd : gc ≠ d := fun e => by have := hGM.new; have := HH.out.1.lt; omega
  have hC8 : CtrAt (wc.setCell ⟨d, 6, none⟩ (.int .i64 32)) gc 0 J := hGM.ctr.turn (turn_put (d := d)) (by simp; exact hgd)
  obtain ⟨wB, hwB⟩ : ∃ wB, wc.setCell ⟨d, 6, none⟩ (.int .i64 32) = wB := ⟨_, rfl⟩
  rw [hwB] at hB8 hT8 hC8
  have hcB : Cip wB 0 c ks kb R cp := HH.out.2.1.turn hT8 (by simp; exact (HH.out.2.1.nd HH.out.1 HH.out.2.2.2.2.2.2.2.2).1) (by simp; exact (HH.out.2.1.nd HH.out.1 HH.out.2.2.2.2.2.2.2.2).2)
  have hq2 : ∀ W, Old wB W → W.cell? ⟨d, 2, none⟩ = some (.pointer (some ⟨c, 0, none⟩)) := fun W hO => by rw [(Blk.below hB8 hO).cell]; rfl
  have hq5 : ∀ W, Old wB W → W.cell? ⟨d, 5, none⟩ = some (.slice (some ⟨gc, 0, none⟩) 16 cc) := fun W hO => by rw [(Blk.below hB8 hO).cell]; rfl
  have HM := Lib.hid (And.intro hGM (And.intro hB8 (And.intro hT8 (And.intro hC8 (And.intro hcB (And.intro hq2 (And.intro hq5 hgd)))))))
  have HW := Lib.hid hwB
  clear hGM hB8 hT8 hC8 hcB hq2 hq5 hgd hwB
  go_upto_region 9 with fail
  rw [HW.out]
  refine region_oldZ 12 (by kernel_rfl) (fun wd hHeld hSz => ?_)
  have HSz := Lib.hid hSz
  clear hSz
  have hOd := hHeld
  refine takeZ (z := 12) (by kernel_rfl) (i := 0) (v := ?_) rfl (by kernel_rfl) (by kernel_rfl) (by kernel_rfl) (fun _ _ _ h => h) (Or.inl ⟨by rfl, ?_⟩) hHeld ?_
  rotate_left
  focus (intro wq hSw; clear hSw; go_simp; try with_reducible rfl)
  try simp only [Act.put, List.setIfInBounds_toArray, List.set_cons_zero, List.set_cons_succ]
  refine takeZ (z := 12) (by kernel_rfl) (i := 1) (v := ?_) rfl (by kernel_rfl) (by kernel_rfl) (by kernel_rfl) (fun _ _ _ h => h) (Or.inl ⟨by rfl, ?_⟩) hHeld ?_
  rotate_left
  focus (intro wq hSw; clear hSw; go_simp; try with_reducible rfl)
  try simp only [Act.put, List.setIfInBounds_toArray, List.set_cons_zero, List.set_cons_succ]
  refine takeZ (z := 12) (by kernel_rfl) (i := 2) (v := ?_) rfl (by kernel_rfl) (by kernel_rfl) (by kernel_rfl) (fun _ _ _ h => h) (Or.inl ⟨by rfl, ?_⟩) hHeld ?_
  rotate_left
  focus (intro wq hSw; clear hSw; go_simp; try with_reducible rfl)
  try simp only [Act.put, List.setIfInBounds_toArray, List.set_cons_zero, List.set_cons_succ]
  refine takeZ (z := 12) (by kernel_rfl) (i := 3) (v := ?_) rfl (by kernel_rfl) (by kernel_rfl) (by kernel_rfl) (fun _ _ _ h => h) (Or.inl ⟨by rfl, ?_⟩) hHeld ?_
  rotate_left
  focus (intro wq hSw; clear hSw; go_simp; try with_reducible rfl)
  try simp only [Act.put, List.setIfInBounds_toArray, List.set_cons_zero, List.set_cons_succ]
  refine takeZ (z := 12) (by kernel_rfl) (i := 4) (v := ?_) rfl (by kernel_rfl) (by kernel_rfl) (by kernel_rfl) (fun _ _ _ h => h) (Or.inl ⟨by rfl, ?_⟩) hHeld ?_
  rotate_left
  focus (intro wq hSw; have r2 := HM.out.2.2.2.2.2.1 wq hSw; clear hSw; go_simp; try with_reducible rfl)
  try simp only [Act.put, List.setIfInBounds_toArray, List.set_cons_zero, List.set_cons_succ]
  refine takeZ (z := 12) (by kernel_rfl) (i := 5) (v := ?_) rfl (by kernel_rfl) (by kernel_rfl) (by kernel_rfl) (fun _ _ _ h => h) (Or.inl ⟨by rfl, ?_⟩) hHeld ?_
  rotate_left
  focus (intro wq hSw; clear hSw; go_simp; try with_reducible rfl)
  try simp only [Act.put, List.setIfInBounds_toArray, List.set_cons_zero, List.set_cons_succ]
  refine takeZ (z := 12) (by kernel_rfl) (i := 6) (v := ?_) rfl (by kernel_rfl) (by kernel_rfl) (by kernel_rfl) (fun _ _ _ h => h) (Or.inl ⟨by rfl, ?_⟩) hHeld ?_
  rotate_left
  focus (intro wq hSw; clear hSw; go_simp; try with_reducible rfl)
  try simp only [Act.put, List.setIfInBounds_toArray, List.set_cons_zero, List.set_cons_succ]
  refine takeZ (z := 12) (by kernel_rfl) (i := 7) (v := ?_) rfl (by kernel_rfl) (by kernel_rfl) (by kernel_rfl) (fun _ _ _ h => h) (Or.inl ⟨by rfl, ?_⟩) hHeld ?_
  rotate_left
  focus (intro wq hSw; clear hSw; go_simp; try with_reducible rfl)
  try simp only [Act.put, List.setIfInBounds_toArray, List.set_cons_zero, List.set_cons_succ]
  refine takeZ (z := 12) (by kernel_rfl) (i := 8) (v := ?_) rfl (by kernel_rfl) (by kernel_rfl) (by kernel_rfl) (fun _ _ _ h => h) (Or.inl ⟨by rfl, ?_⟩) hHeld ?_
  rotate_left
  focus (intro wq hSw; have r5 := HM.out.2.2.2.2.2.2.1 wq hSw; clear hSw; go_simp; try with_reducible rfl)
  try simp only [Act.put, List.setIfInBounds_toArray, List.set_cons_zero, List.set_cons_succ]
  refine wpAnyT_ready (rs := [9]) (by kernel_rfl) (by simp) ?_
  refine consZ rfl (fun K hK => ?_) AllReadyT.nil
  go_simp
  refine (enc_any 0 c ks kb R cp _ _ _ wd (HM.out.2.2.2.2.1.below hOd) ((HM.out.2.2.2.1.below hOd).rd cc HM.out.1.c16 HM.out.1.ccm)).mono ?_
  rintro e wa ⟨sb, rfl, hsb, hS, hBw⟩
  refine hK.out _ _ (hHeld.trans hBw) (fun hHeld => ?_)
  clear hK K
  try simp only [Act.put, List.setIfInBounds_toArray, List.set_cons_zero, List.set_cons_succ]
  refine wpAnyT_ready (rs := [10]) (by kernel_rfl) (by simp) ?_
  refine consZ rfl (fun K hK => ?_) AllReadyT.nil
  go_simp
  refine hK.out _ _ hHeld (fun hHeld => ?_)
  clear hK K
  try simp only [Act.put, List.setIfInBounds_toArray, List.set_cons_zero, List.set_cons_succ]
  refine takeZ (z := 12) (by kernel_rfl) (i := 11) (v := ?_) rfl (by kernel_rfl) (by kernel_rfl) (by kernel_rfl) (fun _ _ _ h => h) (Or.inl ⟨by rfl, ?_⟩) hHeld ?_
  rotate_left
  focus (intro wq hSw; clear hSw; go_simp; try with_reducible rfl)
  try simp only [Act.put, List.setIfInBounds_toArray, List.set_cons_zero, List.set_cons_succ]
  have f8 := (Blk.below HM.out.2.1 (hOd.trans hBw)).frozen 8
  have q8 := (Blk.below HM.out.2.1 (hOd.trans hBw)).cell 8
  simp only [List.setIfInBounds_toArray, List.set_cons_zero, List.set_cons_succ, List.getElem?_toArray, List.getElem?_cons_zero, List.getElem?_cons_succ] at q8
  refine wpAnyT_ready (rs := [12]) (by kernel_rfl) (by simp) ?_
  refine consZl rfl (fun K hK => ?_) AllReadyT.nil
  go_simp
  refine hK.out _ _ ?_
  clear hK K
  try simp only [Act.put, List.setIfInBounds_toArray, List.set_cons_zero, List.set_cons_succ]
  refine wpAnyT_done (by kernel_rfl) ?_ _
  refine NoPanic.normal ?_
  try simp only [Exit.then]
  have hOa : Old wB wa := hOd.trans hBw
  have hBa := Blk.below HM.out.2.1 hOa
  have hB9 := hBa.set_ 8 (.slice (some ⟨sb, 0, none⟩) 16 16)
  have hT9 : Turn [d] w (wa.setCell ⟨d, 8, none⟩ (.slice (some ⟨sb, 0, none⟩) 16 16)) := (HM.out.2.2.1.trans (Turn.of_below [d] hOa) (fun y hy => .inl hy)).trans turn_put (fun y hy => .inl hy)
  have hTd : Turn [d] wa (wa.setCell ⟨d, 8, none⟩ (.slice (some ⟨sb, 0, none⟩) 16 16)) := turn_put
  have hNa : ∀ g ∈ [d], NoB wa g := fun g hg => by simp at hg; subst hg; exact NoB.of hBa rfl
  have hM9 := hS.rd.turnB hTd hNa
  have hC9 : CtrAt (wa.setCell ⟨d, 8, none⟩ (.slice (some ⟨sb, 0, none⟩) 16 16)) gc 0 J := (HM.out.2.2.2.1.below hOa).turn hTd (by simp; exact HM.out.2.2.2.2.2.2.2)
  have hc9 : Cip (wa.setCell ⟨d, 8, none⟩ (.slice (some ⟨sb, 0, none⟩) 16 16)) 0 c ks kb R cp := HH.out.2.1.turn hT9 (by simp; exact (HH.out.2.1.nd HH.out.1 HH.out.2.2.2.2.2.2.2.2).1) (by simp; exact (HH.out.2.1.nd HH.out.1 HH.out.2.2.2.2.2.2.2.2).2)
  have hD9 := HH.out.2.2.2.2.2.2.1.turnB hT9 (fun g hg => by simp at hg; subst hg; exact HH.out.2.2.2.2.2.2.2.2)
  obtain ⟨W9, hW9⟩ : ∃ W9, wa.setCell ⟨d, 8, none⟩ (.slice (some ⟨sb, 0, none⟩) 16 16) = W9 := ⟨_, rfl⟩
  rw [hW9] at hB9 hT9 hM9 hC9 hc9 hD9
  have hnew := HM.out.1.new
  have hcl := HH.out.2.1.lt
  have hsz : w.heap.size ≤ sb := Nat.le_trans HM.out.2.2.1.size (Nat.le_trans hOd.size hsb)
  have hsg : gc < sb := Nat.lt_of_lt_of_le (HM.out.2.2.2.1.below hOd).lt hsb
  have hgl : g < w.heap.size := HH.out.2.2.1.rd.lt _ rfl
  obtain ⟨X, hX⟩ : ∃ X : GX, X = ⟨d, c, kb, R, cp, ks, 5, enc, gc, 0, cc, 32⟩ := ⟨_, rfl⟩
  have hok : (X.cx nilW.v (.slice (some ⟨sb, 0, none⟩) 16 16) (.slice A4 n4 c4) nilW.v).Ok := by
   subst hX
   exact ⟨rfl, rfl, rfl, rfl, HM.out.1.c16, HM.out.1.ccm, (by show 32 ≤ 1000; omega), (by show c ≠ gc; omega), (by show kb ≠ gc; omega), rfl⟩
  have hcnt : CntAt W9 (X.cx nilW.v (.slice (some ⟨sb, 0, none⟩) 16 16) (.slice A4 n4 c4) nilW.v) J none 0 0 [] := by
   subst hX
   exact ⟨hok, hB9, hc9, hC9, Rd.nil _, fun ad e => by cases e⟩
  have hstep := hcnt.step
  have hXd : (X.cx nilW.v (.slice (some ⟨sb, 0, none⟩) 16 16) (.slice A4 n4 c4) nilW.v).d = d := by subst hX; rfl
  have hXg : (X.cx nilW.v (.slice (some ⟨sb, 0, none⟩) 16 16) (.slice A4 n4 c4) nilW.v).gc = gc := by subst hX; rfl
  have hXw : (X.cx nilW.v (.slice (some ⟨sb, 0, none⟩) 16 16) (.slice A4 n4 c4) nilW.v).wd = 32 := by subst hX; rfl
  rw [hXd, hXg, hXw] at hstep
  rw [hW9]
  have HZ := Lib.hid (And.intro hstep (And.intro hT9 (And.intro hM9 (And.intro hD9 (And.intro hnew (And.intro hsz (And.intro hsg hgl)))))))
  clear hOa hBa hB9 hT9 hTd hNa hM9 hC9 hc9 hD9 hW9 hnew hcl hsz hsg hgl hok hcnt hstep hXd hXg hXw hsb hS hBw hOd hHeld f8 q8
  go_wp2_with fail
  refine HZ.out.1.mono ?_
  rintro e w3 ⟨rfl, hC3, hT3⟩
  have H3 := Lib.hid (And.intro hC3 hT3)
  clear hC3 hT3
  go_wp2_with fail
  go_ret
  have hB4 := HH.out.2.2.2.2.2.2.2.1
  have hn4 : ∀ ad, A4 = some ad → ad.block ≠ gc := fun ad e => by
   obtain ⟨a0, e1, e2⟩ := hB4 ad e
   cases e1
   have h1 := HZ.out.2.2.2.2.1
   have h2 := HZ.out.2.2.2.2.2.2.2
   simp only at e2
   omega
  refine ⟨rfl, gc, cc, ⟨some ⟨sb, 0, none⟩, 16, 16, encL ks R J⟩, ⟨A4, n4, c4, p.drop (1 + n)⟩, ?_, rfl, rfl, HZ.out.2.2.2.2.1, fun ad e => by cases e; exact HZ.out.2.2.2.2.2.1, hB4, HZ.out.2.1.trans H3.out.2 (fun y hy => .inr (by simp at hy; rw [hy]; exact HZ.out.2.2.2.2.1))⟩
  subst hX
  refine ⟨H3.out.1, OwnO.nil _ _, HZ.out.2.2.1.turn H3.out.2 (fun ad e => by cases e; simp; have := HZ.out.2.2.2.2.2.2.1; omega), fun _ => rfl, HZ.out.2.2.2.1.turn H3.out.2 (fun ad e => by simp; exact hn4 ad e), Own.nil _ _, fun ad h => ?_, fun ad h => ?_, ⟨Apart.none_l _, Apart.none_l _, Apart.none_l _, Apart.none_l _⟩, ⟨Apart.none_l _, Apart.none_l _, Apart.none_l _⟩⟩
  ·rcases h with h | h | h | h
   ·cases h
   ·cases h
    have := HZ.out.2.2.2.2.2.2.1
    show sb ≠ gc
    omega
   ·exact hn4 ad h
   ·cases h
  ·rcases h with h | h <;> cases h
end Go.Proofs.YtgjnmpjimhbfgaaGreatDoor
