/-
  A round's word for a range over a store's records that counts.
-/
import Derived.Test.YtgjnmpjimhbfgaaGreatDoorZzSm15
namespace Go.Proofs.YtgjnmpjimhbfgaaGreatDoor
set_option maxRecDepth 100000
open Go.RowKit
theorem Rd.loop {w w' : World} {A : Option Addr} {m c x : Nat} {l : List UInt8} (h : Rd w A m c l) (hl : ∃ r, w.heap[x]? = some (.loop r)) (ht : Turn [x] w w') : Rd w' A m c l := by
 obtain ⟨h1, h2, h3, h4⟩ := h
 refine ⟨h1, h2, h3, ?_⟩
 rcases h4 with h4 | ⟨b, off, rfl, hb, hc⟩
 ·exact .inl h4
 ·refine .inr ⟨b, off, rfl, Nat.lt_of_lt_of_le hb ht.size, fun k y hy => ?_⟩
  have hk := hc k y hy
  have hbx : b ≠ x := fun e => by
   subst e
   obtain ⟨r, hr⟩ := hl
   simp [World.cell?, hr] at hk
  exact cell_turn hk ht (by simpa using hbx)
theorem alArg.loop {M : List SRec} {k : Nat} {args : Array Value} {W W' : World} {x : Nat} (h : alArg M k args W) (hl : ∃ r, W.heap[x]? = some (.loop r)) (ht : Turn [x] W W') : alArg M k args W' := by
 obtain ⟨p, A, c, h1, h2, h3⟩ := h
 exact ⟨p, A, c, h1, h2, h3.loop hl ht⟩
theorem alArg.size {M : List SRec} {k : Nat} {args : Array Value} {W : World} (h : alArg M k args W) : args.size = 2 := by
 obtain ⟨p, A, c, h1, rfl, h3⟩ := h
 rfl
structure CntI (w8 : World) (kx : Nat) (k : Nat) (G : List Nat) (W : World) : Prop where
 cnt : Blk W kx 3 #[.int .i64 (k : Int)]
 turn : Turn [kx] w8 W
 new : ∀ x ∈ G, w8.heap.size ≤ x
 lt : kx < w8.heap.size
theorem CntI.hI {w8 : World} {kx k : Nat} {G1 G2 : List Nat} {W1 W2 : World} (h : CntI w8 kx k G1 W1) (ht : Turn G1 W1 W2) (hG : ∀ x ∈ G2, x ∈ G1 ∨ W1.heap.size ≤ x) : CntI w8 kx k G2 W2 :=
 ⟨h.cnt.turn ht (fun hm => by have := h.new _ hm; have := h.lt; omega), h.turn.trans ht (fun x hx => .inr (h.new x hx)), fun x hx => (hG x hx).elim (h.new x) (fun hx => Nat.le_trans h.turn.size hx), h.lt⟩
theorem CntI.hIl {w8 : World} {kx k x : Nat} {G1 : List Nat} {W1 W2 : World} (h : CntI w8 kx k G1 W1) (hx : w8.heap.size ≤ x) (ht : Turn [x] W1 W2) : CntI w8 kx k G1 W2 :=
 ⟨h.cnt.turn ht (fun hm => by simp at hm; have := h.lt; omega), h.turn.trans ht (fun y hy => .inr (by simp at hy; omega)), h.new, h.lt⟩
theorem CntI.start {w8 : World} {kx : Nat} (h : Blk w8 kx 3 #[.int .i64 0]) : CntI w8 kx 0 [] w8 := ⟨h, Turn.refl _ _, by simp, h.lt⟩
theorem wp_rangeCnt {g : Operand} {ps : Array Tmp} {body : Code} {Q : Exit → Act → World → Prop} {a : Act} {w7 w8 : World} {gf : Nat} {lb : Array Value} {M : List SRec} {kx : Nat}
  (hit : IterH Tryz.prog gf lb (alArg M) M.length (fun _ W => Old w7 W) kx) (h78 : Old w7 w8) (hk : Blk w8 kx 3 #[.int .i64 0]) (hg : a.eval g = .func (.func gf) #[] lb) (eg : ∀ args w, (callFunc gf args).run Tryz.prog w = .ok (.enter gf args) w) (hps : ps.size = 2)
  (hbody : ∀ (l k : Nat) (u1 u2 : Value) (W : World) (R : Exit → Act → World → Prop), k < M.length → W.cell? ⟨kx, 0, none⟩ = some (.int .i64 (k : Int)) → W.frozen? ⟨kx, 0, none⟩ = false → (∀ a', R .normal a' (W.setCell ⟨kx, 0, none⟩ (.int .i64 ((k + 1 : Nat) : Int)))) →
   body.wpIn (Fence.wide.inRound l) 2 Tryz.prog R { tmps := (ps.zip #[u1, u2]).foldl (fun t (p, v) => t.setIfInBounds p v) a.tmps, defers := [] } W)
  (hdone : ∀ W : World, w8.heap.size + 1 < W.heap.size → Turn [kx] w8 W → Blk W kx 3 #[.int .i64 (M.length : Int)] → W.heap[w8.heap.size]? = some (.deferred (some [])) → Q .normal { a with defers := { target := .collected w8.heap.size, args := #[] } :: a.defers } W) :
  (Code.rangeFunc g ps .skip body).wp Tryz.prog Q a w8 := by
 have hB : kx < w8.heap.size := hk.lt
 refine wp_rangeH (G := []) hg eg hit (Nat.le_of_lt hB) (fun k args W h => h.size.trans hps.symm) (by simp) (fun k G W => CntI w8 kx k G W) (fun _ _ _ => False) (fun _ _ _ _ _ h => h.elim)
  (fun k G1 G2 W1 W2 h ht hG => h.hI ht hG) (fun k G1 W1 W2 h hl ht => h.hIl (by omega) ht) (fun k args W1 W2 h hl ht => h.loop hl ht) (CntI.start hk) (fun W ht => Old.trans h78 ht.below)
  (fun args => { tmps := (ps.zip args).foldl (fun t (p, v) => t.setIfInBounds p v) a.tmps, defers := [] }) ?_ ?_ ?_ (fun c k W _ _ h => h.elim)
 ·intro l args k W K _ hK
  exact wpIn_skip (show Exit.then K _ .normal _ W from hK)
 ·rintro l k args G1 W hkN hlt hI ⟨pp, Ap, cp, hp, rfl, hr⟩ hd1 hd2 hgs
  have hc := hI.cnt.cell 0
  simp only [List.getElem?_toArray, List.getElem?_cons_zero] at hc
  refine hbody l k _ _ W _ hkN hc (hI.cnt.frozen 0) (fun a' => ⟨⟨[kx], (Turn.refl _ _).setCell (.inl (by simp)) _, by simp; omega, by simp; omega, fun x hx => ?_⟩, ⟨?_, hI.turn.setCell (.inl (by simp)) _, hI.new, hI.lt⟩⟩)
  ·simp at hx
   subst hx
   exact ⟨fun hm => by have := hI.new _ hm; omega, Nat.le_refl _⟩
  ·have := hI.cnt.set_ 0 (.int .i64 ((k + 1 : Nat) : Int))
   simpa using this
 ·intro G1 W hlt hI hK
  exact hdone W hlt hI.turn hI.cnt hK
end Go.Proofs.YtgjnmpjimhbfgaaGreatDoor
