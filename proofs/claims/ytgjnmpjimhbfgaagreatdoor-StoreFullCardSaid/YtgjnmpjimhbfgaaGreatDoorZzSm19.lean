/-
  objstore: All; the iterator's beginning.
  objstore: the iterator of no store; GCM's parameter.
  A round's word for a range over a store's records that counts.
-/
import Derived.Test.YtgjnmpjimhbfgaaGreatDoorZzSm13
import Derived.Test.YtgjnmpjimhbfgaaGreatDoorZzRangeH
namespace Go.Proofs.YtgjnmpjimhbfgaaGreatDoor
set_option maxRecDepth 100000
open Go.RowKit
attribute [local go_sem] Oper.semAt_some
theorem stall_any (p : Option Addr) (w : World) : Calls Tryz.prog 22 #[.pointer p] w fun e w' => e = .returned (.func (.func 53) #[] #[.pointer (some ⟨w.heap.size, 0, none⟩)]) ∧ w' = w.alloc (.cells #[.pointer p] 28) := by
 go_enter Tryz.func22, Tryz.ntmps22
 go_wp2
 try go_ret
 exact ⟨rfl, rfl⟩
def alArg (M : List SRec) (k : Nat) (args : Array Value) (W : World) : Prop := ∃ p A c, M[k]? = some p ∧ args = #[.int .i64 p.1, .slice A p.2.length c] ∧ Rd W A p.2.length c p.2
structure AlI (w0 wl W : World) (J : Nat → List Nat → World → Prop) (k : Nat) (A : Option Addr) (c : Nat) (M : List SRec) (Gk : List Nat) : Prop where
 j : J k Gk wl
 ids : OwnE Tryz.eIr wl W.heap.size (.slice A M.length c) (M.map (·.1))
 old : Old w0 wl
 lt : ∀ y ∈ Gk, y < wl.heap.size
 own : ∀ y, (Value.slice A M.length c).ownBlock = some y → y ∈ Gk
set_option maxHeartbeats 4000000 in
theorem all_iter (w0 : World) (bx x b : Nat) (v r br : Value) (M : List SRec) (hbx : w0.cell? ⟨bx, 0, none⟩ = some (.pointer (some ⟨x, 0, none⟩))) (_hbl : bx < w0.heap.size) (hx : Blk w0 x 83 #[v, r, .map (some b), br]) (hM : RMap w0 b M) (hN : M.length ≤ 100000) (hl : ∀ q ∈ M, q.2.length ≤ 100000) :
  IterH Tryz.prog 53 #[.pointer (some ⟨bx, 0, none⟩)] (alArg M) M.length (fun _ W => Old w0 W) w0.heap.size := by
 intro l J Jx W G hJ hJx hY h0 hS
 have hne := neStore
 have c0 : W.cell? ⟨bx, 0, none⟩ = some (.pointer (some ⟨x, 0, none⟩)) := cell_old hS hbx
 have hx0 := hx.cell 2
 simp only [List.getElem?_toArray, List.getElem?_cons_succ, List.getElem?_cons_zero] at hx0
 have c2 := cell_old hS hx0
 have hids := ids_any b M W (hM.below hS) hN
 refine callsIn_of_wp Tryz.func53 rfl trivial ?_ rfl
 simp only [Tryz.ntmps53, List.size_toArray, List.length_cons, List.length_nil, Nat.reduceAdd, Nat.reduceSub, Array.replicate_succ, Array.replicate_zero, List.push_toArray, List.append_toArray, List.nil_append, List.cons_append]
 have HY := Lib.hid hY
 have HV := Lib.hid (And.intro hS (And.intro h0 (And.intro hM (And.intro hN hl))))
 clear hY hS h0 hM hN hl hbx hx hx0
 gi_wp2_with (fail)
 refine ⟨trivial, ?_⟩
 refine (callsIn_wide.2 hids).mono ?_
 rintro e w1 ⟨A1, c1, rfl, hO1, hb1⟩
 have hJ1 : J 0 (Value.slice A1 M.length c1).ownBlock.toList w1 := hJ 0 G _ W w1 HV.out.2.1 (Turn.of_below G hb1) (fun y hy => .inr (hO1.lt (by simpa using hy)).1)
 have HI0 := Lib.hid (show AlI w0 w1 W J 0 A1 c1 M (Value.slice A1 M.length c1).ownBlock.toList from ⟨hJ1, hO1, Old.trans HV.out.1 hb1, fun y hy => (hO1.lt (by simpa using hy)).2, fun y hy => by rw [hy]; simp⟩)
 obtain ⟨N, hNN⟩ : ∃ N, M.length = N := ⟨_, rfl⟩
 rw [hNN]
 have HN := Lib.hid hNN
 clear hids hO1 hb1 hJ1 hNN c0 c2
 gi_wp2
 gi_loopw [15] (fun i wl => ∃ k : Nat, k ≤ N ∧ i = .int .i64 (k : Int) ∧ ∃ Gk, AlI w0 wl W J k A1 c1 M Gk) (fun i _ => N - (intOf i).toNat)
 case atStart => exact ⟨0, by omega, rfl, _, HI0.out⟩
 case round =>
  obtain ⟨k, hk, rfl, Gk, hI⟩ := hrel
  have HI := Lib.hid hI
  clear hI
  by_cases hlt : k < N
  ·have hki : (k : Int) < N := by omega
   have hkb : (k : Int) + 1 ≤ 100000 := by have := HV.out.2.2.2.1; have := HN.out; omega
   obtain ⟨p, hp⟩ : ∃ p, M[k]? = some p := ⟨_, List.getElem?_eq_getElem (by rw [HN.out]; exact hlt)⟩
   obtain ⟨g, off, rfl, _, h3⟩ := HI.out.ids.rd.at_ (j := k) (x := p.1) (by rw [List.getElem?_map, hp]; rfl)
   have k0 : wr.cell? ⟨g, off + k, none⟩ = some (.int .i64 p.1) := by have := h3 0 (by decide); have hs : Tryz.eIr.sz = 1 := rfl; rw [hs, Nat.mul_one, Nat.add_zero] at this; exact this
   have hpm := List.mem_of_getElem? hp
   obtain ⟨A5, c5, hlk, hO5⟩ := (HV.out.2.2.1.below HI.out.old).look hpm
   have hll := HV.out.2.2.2.2 p hpm
   have hcl := rclone_own A5 p.2.length c5 p.2 wr hO5.rd (by omega)
   obtain ⟨pl, hpl⟩ : ∃ pl, p.2.length = pl := ⟨_, rfl⟩
   obtain ⟨pi, hpi⟩ : ∃ pi, p.1 = pi := ⟨_, rfl⟩
   rw [hpl] at hlk hcl
   rw [hpi] at k0 hlk
   have HP := Lib.hid (And.intro hp (And.intro hpl hpi))
   clear h3 hp hpm hO5 hll hpl hpi
   gi_wp2_with (fail)
   refine ⟨trivial, ?_⟩
   refine (callsIn_wide.2 hcl).mono ?_
   rintro e w5 ⟨A6, c6, rfl, hO6, hb6⟩
   have hJ5 : J k Gk w5 := hJ k Gk Gk wr w5 HI.out.j (Turn.of_below Gk hb6) (fun y hy => .inl hy)
   have hlt5 : ∀ y ∈ Gk, y < w5.heap.size := fun y hy => Nat.lt_of_lt_of_le (HI.out.lt y hy) hb6.size
   have hA5 : alArg M k #[.int .i64 pi, .slice A6 pl c6] w5 := ⟨p, A6, c6, HP.out.1, by rw [HP.out.2.1, HP.out.2.2], by rw [HP.out.2.1]; exact hO6.rd⟩
   obtain ⟨fn, tmps, assign, body, hy, hR⟩ := HY.out k _ Gk w5 (by rw [HN.out]; exact hlt) hJ5 hA5 hlt5
   have HR := Lib.hid hR
   have H5 := Lib.hid (And.intro hb6 hlt5)
   clear hR hcl hO6 hb6 hJ5 hlt5 hA5 hlk k0
   gi_wp2
   refine HR.out.mono ?_
   rintro e W' (⟨rfl, hJ', S, hTS, hS⟩ | ⟨rfl, hJx'⟩)
   ·have HM2 := Lib.hid (And.intro hJ' (And.intro hTS hS))
    clear hJ' hTS hS
    gi_wp2
    go_roundw
    case rel =>
     refine ⟨k + 1, by omega, by go_num, Gk, HM2.out.1, ?_, ?_, fun y hy => Nat.lt_of_lt_of_le (H5.out.2 y hy) HM2.out.2.1.size, HI.out.own⟩
     ·exact (HI.out.ids.below H5.out.1).turn HM2.out.2.1 (fun g hg hm => (HM2.out.2.2 g hm).1 (HI.out.own g hg))
     ·exact (Old.trans HI.out.old H5.out.1).tnew HM2.out.2.1 (fun y hy => (HM2.out.2.2 y hy).2)
    case measure => simp [intOf]; omega
   ·gi_wp2
    refine bodyPost_ret (results_none rfl _ _ _) rfl ?_
    exact ⟨⟨_, rfl⟩, .inr ⟨k, by rw [HN.out]; exact hlt, hJx'⟩⟩
  ·obtain rfl : k = N := by omega
   have hki : ¬ (k : Int) < k := by omega
   gi_wp2
   go_end0
   exact ⟨⟨_, rfl⟩, .inl ⟨Gk, by rw [HN.out]; exact HI.out.j⟩⟩
end Go.Proofs.YtgjnmpjimhbfgaaGreatDoor
namespace Go.Proofs.YtgjnmpjimhbfgaaGreatDoor
set_option maxRecDepth 100000
open Go.RowKit
theorem stparam_any (A : Option Addr) (m c : Nat) (l : List UInt8) (w : World) (h : Rd w A m c l) (hm : m ≤ 100000) : Calls Tryz.prog 45 #[.slice A m c] w fun e w' => ∃ A' n' c', e = .returned (.slice A' n' c') ∧ Own w' w.heap.size (.slice A' n' c') (12 :: l) ∧ Old w w' := by
 have h1 := Own.of_blk (w := w.alloc (.cells (([12] : List UInt8).map B).toArray 5)) (base := w.heap.size) (l := [12]) (n := 1) (Blk.new _ _ _) rfl (by unfold maxLen; omega) (Nat.le_refl _)
 have hl := h.1
 have H1 := Lib.hid (And.intro h1 (And.intro (h.below ((Old.refl w).alloc (.cells (([12] : List UInt8).map B).toArray 5))) (show m = l.length from hl)))
 clear h1 h hl
 go_enter Tryz.func45, Tryz.ntmps45
 go_wp2_with (at_builtin; go_loud (refine wp_app2 (.tmp 3) (.tmp 4) w.heap.size (.slice (some ⟨w.heap.size, 0, none⟩) 1 1) [12] H1.out.1 (by simp) A m c l H1.out.2.1 (by have := H1.out.2.2; simp; omega) rfl rfl rfl rfl ?_; intro A9 n9 c9 w9 hn9 hG9; have H9 := Lib.hid hG9; clear hG9))
 go_ret
 exact ⟨A9, n9, c9, rfl, H9.out.own, Below.trans ((Old.refl w).alloc _) H9.out.below⟩
end Go.Proofs.YtgjnmpjimhbfgaaGreatDoor
namespace Go.Proofs.YtgjnmpjimhbfgaaGreatDoor
set_option maxRecDepth 100000
open Go.RowKit
theorem Rd.loop {w w' : World} {A : Option Addr} {m c x : Nat} {l : List UInt8} (h : Rd w A m c l) (hl : ∃ r, w.heap[x]? = some (.loop r)) (ht : Turn [x] w w') : Rd w' A m c l := by
 obtain ⟨h1, h2, h3, h4⟩ := h
 refine ⟨h1, h2, h3, ?_⟩
 rcases h4 with h4 | ⟨b, off, rfl, hb, hc⟩
 ·exact .inl h4
 ·refine .inr ⟨b, off, rfl, Nat.lt_of_lt_of_le hb ht.size, fun k y hy => ?_⟩
  have hk := hc k y hy
  have hbx : b ≠ x := fun e => by
   subst e
   obtain ⟨r, hr⟩ := hl
   simp [World.cell?, hr] at hk
  exact cell_turn hk ht (by simpa using hbx)
theorem alArg.loop {M : List SRec} {k : Nat} {args : Array Value} {W W' : World} {x : Nat} (h : alArg M k args W) (hl : ∃ r, W.heap[x]? = some (.loop r)) (ht : Turn [x] W W') : alArg M k args W' := by
 obtain ⟨p, A, c, h1, h2, h3⟩ := h
 exact ⟨p, A, c, h1, h2, h3.loop hl ht⟩
theorem alArg.size {M : List SRec} {k : Nat} {args : Array Value} {W : World} (h : alArg M k args W) : args.size = 2 := by
 obtain ⟨p, A, c, h1, rfl, h3⟩ := h
 rfl
structure CntI (w8 : World) (kx : Nat) (k : Nat) (G : List Nat) (W : World) : Prop where
 cnt : Blk W kx 3 #[.int .i64 (k : Int)]
 turn : Turn [kx] w8 W
 new : ∀ x ∈ G, w8.heap.size ≤ x
 lt : kx < w8.heap.size
theorem CntI.hI {w8 : World} {kx k : Nat} {G1 G2 : List Nat} {W1 W2 : World} (h : CntI w8 kx k G1 W1) (ht : Turn G1 W1 W2) (hG : ∀ x ∈ G2, x ∈ G1 ∨ W1.heap.size ≤ x) : CntI w8 kx k G2 W2 :=
 ⟨h.cnt.turn ht (fun hm => by have := h.new _ hm; have := h.lt; omega), h.turn.trans ht (fun x hx => .inr (h.new x hx)), fun x hx => (hG x hx).elim (h.new x) (fun hx => Nat.le_trans h.turn.size hx), h.lt⟩
theorem CntI.hIl {w8 : World} {kx k x : Nat} {G1 : List Nat} {W1 W2 : World} (h : CntI w8 kx k G1 W1) (hx : w8.heap.size ≤ x) (ht : Turn [x] W1 W2) : CntI w8 kx k G1 W2 :=
 ⟨h.cnt.turn ht (fun hm => by simp at hm; have := h.lt; omega), h.turn.trans ht (fun y hy => .inr (by simp at hy; omega)), h.new, h.lt⟩
theorem CntI.start {w8 : World} {kx : Nat} (h : Blk w8 kx 3 #[.int .i64 0]) : CntI w8 kx 0 [] w8 := ⟨h, Turn.refl _ _, by simp, h.lt⟩
theorem wp_rangeCnt {g : Operand} {ps : Array Tmp} {body : Code} {Q : Exit → Act → World → Prop} {a : Act} {w7 w8 : World} {gf : Nat} {lb : Array Value} {M : List SRec} {kx : Nat}
  (hit : IterH Tryz.prog gf lb (alArg M) M.length (fun _ W => Old w7 W) kx) (h78 : Old w7 w8) (hk : Blk w8 kx 3 #[.int .i64 0]) (hg : a.eval g = .func (.func gf) #[] lb) (eg : ∀ args w, (callFunc gf args).run Tryz.prog w = .ok (.enter gf args) w) (hps : ps.size = 2)
  (hbody : ∀ (l k : Nat) (u1 u2 : Value) (W : World) (R : Exit → Act → World → Prop), k < M.length → W.cell? ⟨kx, 0, none⟩ = some (.int .i64 (k : Int)) → W.frozen? ⟨kx, 0, none⟩ = false → (∀ a', R .normal a' (W.setCell ⟨kx, 0, none⟩ (.int .i64 ((k + 1 : Nat) : Int)))) →
   body.wpIn (Fence.wide.inRound l) 2 Tryz.prog R { tmps := (ps.zip #[u1, u2]).foldl (fun t (p, v) => t.setIfInBounds p v) a.tmps, defers := [] } W)
  (hdone : ∀ W : World, w8.heap.size + 1 < W.heap.size → Turn [kx] w8 W → Blk W kx 3 #[.int .i64 (M.length : Int)] → W.heap[w8.heap.size]? = some (.deferred (some [])) → Q .normal { a with defers := { target := .collected w8.heap.size, args := #[] } :: a.defers } W) :
  (Code.rangeFunc g ps .skip body).wp Tryz.prog Q a w8 := by
 have hB : kx < w8.heap.size := hk.lt
 refine wp_rangeH (G := []) hg eg hit (Nat.le_of_lt hB) (fun k args W h => h.size.trans hps.symm) (by simp) (fun k G W => CntI w8 kx k G W) (fun _ _ _ => False) (fun _ _ _ _ _ h => h.elim)
  (fun k G1 G2 W1 W2 h ht hG => h.hI ht hG) (fun k G1 W1 W2 h hl ht => h.hIl (by omega) ht) (fun k args W1 W2 h hl ht => h.loop hl ht) (CntI.start hk) (fun W ht => Old.trans h78 ht.below)
  (fun args => { tmps := (ps.zip args).foldl (fun t (p, v) => t.setIfInBounds p v) a.tmps, defers := [] }) ?_ ?_ ?_ (fun c k W _ _ h => h.elim)
 ·intro l args k W K _ hK
  exact wpIn_skip (show Exit.then K _ .normal _ W from hK)
 ·rintro l k args G1 W hkN hlt hI ⟨pp, Ap, cp, hp, rfl, hr⟩ hd1 hd2 hgs
  have hc := hI.cnt.cell 0
  simp only [List.getElem?_toArray, List.getElem?_cons_zero] at hc
  refine hbody l k _ _ W _ hkN hc (hI.cnt.frozen 0) (fun a' => ⟨⟨[kx], (Turn.refl _ _).setCell (.inl (by simp)) _, by simp; omega, by simp; omega, fun x hx => ?_⟩, ⟨?_, hI.turn.setCell (.inl (by simp)) _, hI.new, hI.lt⟩⟩)
  ·simp at hx
   subst hx
   exact ⟨fun hm => by have := hI.new _ hm; omega, Nat.le_refl _⟩
  ·have := hI.cnt.set_ 0 (.int .i64 ((k + 1 : Nat) : Int))
   simpa using this
 ·intro G1 W hlt hI hK
  exact hdone W hlt hI.turn hI.cnt hK
end Go.Proofs.YtgjnmpjimhbfgaaGreatDoor
