/-
  blockfs: Mount.
-/
import Derived.Test.YtgjnmpjimhbfgaaGreatDoorZzFs4
import Derived.Test.YtgjnmpjimhbfgaaGreatDoorZzRowK
import Derived.Scope
namespace Go.Proofs.YtgjnmpjimhbfgaaGreatDoor
set_option maxRecDepth 100000
open Go.RowKit
attribute [local go_sem] Oper.semAt_some
theorem records_any (d : Nat) (w : World) :
  Calls Tryz.prog 63 #[.pointer (some ⟨d, 0, none⟩)] w fun e w' => e = .returned (.func (.func 89) #[] #[.pointer (some ⟨w.heap.size, 0, none⟩)]) ∧ w' = w.alloc (.cells #[.pointer (some ⟨d, 0, none⟩)] 24) := by
 go_enter Tryz.func63, Tryz.ntmps63
 go_wp2
 try go_ret
 exact ⟨rfl, rfl⟩
def best (cl : Nat → Option Nat) : Nat → Int
 | 0 => -1
 | k + 1 => match cl k with | none => best cl k | some c => max (best cl k) c
theorem HeadIs.lt {s : Dsk} {k c : Nat} (h : HeadIs s k (some c)) : c < 1000000 := h.1
theorem best_lt (s : Dsk) (cl : Nat → Option Nat) (hcl : ∀ k, k < 2 → HeadIs s k (cl k)) : ∀ k, k ≤ 2 → -1 ≤ best cl k ∧ best cl k < 1000000
 | 0, _ => by unfold best; omega
 | k + 1, h => by
  have ih := best_lt s cl hcl k (by omega)
  have hk := hcl k (by omega)
  unfold best
  cases hc : cl k with
  | none => exact ih
  | some c => rw [hc] at hk; have := hk.lt; simp only; omega
theorem DkAt.turn' {w w' : World} {d L : Nat} {s : Dsk} (h : DkAt w d L s) {S : List Nat} (ht : Turn S w w') (hd : d ∉ S) (hL : L ∉ S) (hS : ∀ g ∈ S, NoRow w g) : DkAt w' d L s := by
 obtain ⟨xs, h⟩ := h
 have ne : ∀ {v : Value} {o : Option (List UInt8)}, Byt w v o → ∀ g, v.ownBlock = some g → g ∉ S := by
  intro v o hv g hg hm
  exact hv.notin (hS g hm) hg
 exact ⟨xs, h.1.turn ht hd, h.2.1.turn ht hL, ⟨h.2.2.1.1, fun i x s hx hs => let ⟨a, b, c⟩ := h.2.2.1.2 i x s hx hs; ⟨a.turn ht (ne a), b.turn ht (ne b), c⟩⟩, h.2.2.2⟩
theorem mount_any (d L : Nat) (s : Dsk) (w : World) (h : DkAt w d L s) (hn : 16 ≤ s.n) (hn2 : s.n ≤ 1000) (hd : s.dead = false) (hK : KAt w) (cl : Nat → Option Nat) (hcl : ∀ k, k < 2 → HeadIs s k (cl k)) :
  Calls Tryz.prog 33 #[.pointer (some ⟨d, 0, none⟩)] w fun e w' =>
   ((best cl 2 < 0 ∧ e = .returned (.tuple #[.pointer none, .int .i64 5])) ∨ (∃ c v, best cl 2 = ((c : Nat) : Int) ∧ e = .returned (.tuple #[.pointer (some ⟨v, 0, none⟩), .int .i64 0]) ∧ w.heap.size ≤ v ∧ VolB w' v d ((s.n - 8) / 2) c false)) ∧ Below w.heap.size w w' := by
 have h1 := refused_any d L s w h
 rw [if_neg (by omega), hd, if_neg (by decide)] at h1
 obtain ⟨B, hB⟩ : ∃ B, (s.n - 8) / 2 = B := ⟨_, rfl⟩
 have hBi : ((s.n : Int) - 8).tdiv 2 = (B : Int) := by rw [Int.tdiv_eq_ediv_of_nonneg (by omega)]; omega
 have hsec : ∀ W, DkAt W d L s → Calls Tryz.prog 31 #[.pointer (some ⟨d, 0, none⟩)] W fun e w' => e = .returned (.int .i64 (s.n : Int)) ∧ W = w' := fun W hD => by
  obtain ⟨xs, hx⟩ := hD
  exact sectors_any d L xs s W hx
 have hit := fun bx => records_iter bx d L s cl hcl (by omega)
 have hbl := best_lt s cl hcl
 rw [hB]
 have H1 := Lib.hid (And.intro h (And.intro hK (And.intro hcl (And.intro hsec (And.intro hBi (And.intro hit hbl))))))
 have hnb : (s.n : Int) ≤ 1000 := by omega
 have hnb2 : (16 : Int) ≤ s.n := by omega
 clear h hK hcl hd hB hBi hsec hit hbl hn hn2
 refine calls_of_marks Tryz.func33 rfl ?_
 simp only [Tryz.ntmps33, List.size_toArray, List.length_cons, List.length_nil, Nat.reduceAdd, Nat.reduceSub, Array.replicate_succ, Array.replicate_zero, List.push_toArray, List.append_toArray, List.nil_append, List.cons_append]
 go_wp2_with fail
 refine wp_scope_straight ?_
 go_wp2_with fail
 refine h1.mono ?_
 rintro e w' ⟨rfl, rfl⟩
 clear h1
 go_wp2_with fail
 refine wp_label ?_
 go_wp2_with fail
 refine (records_any d _).mono ?_
 rintro e w2 ⟨rfl, hw2⟩
 go_wp2_with fail
 obtain ⟨X, hX⟩ : ∃ X, w.heap.size = X := ⟨_, rfl⟩
 obtain ⟨w3, hw3⟩ : ∃ w3, ((w.alloc (.cells #[.int .i64 (-1)] 3)).alloc (.cells #[.pointer (some ⟨d, 0, none⟩)] 24)) = w3 := ⟨_, rfl⟩
 have hbc : Blk w3 X 3 #[.int .i64 (-1)] := by rw [← hw3, ← hX]; exact (Blk.new _ _ _).alloc _
 have hbb : Blk w3 (X + 1) 24 #[.pointer (some ⟨d, 0, none⟩)] := by
  rw [← hw3, ← hX]
  have := Blk.new (w.alloc (.cells #[.int .i64 (-1)] 3)) 24 #[.pointer (some ⟨d, 0, none⟩)]
  rwa [show (w.alloc (.cells #[.int .i64 (-1)] 3)).heap.size = w.heap.size + 1 by simp] at this
 have hb3 : Below X w w3 := by rw [← hw3, ← hX]; exact ((Below.refl _ _).alloc (Nat.le_refl _) _).alloc (by simp) _
 have hs3 : w3.heap.size = X + 2 := by rw [← hw3, ← hX]; simp
 have hD3 : DkAt w3 d L s := H1.out.1.below (by rw [hX]; exact hb3)
 have hK3 : KAt w3 := H1.out.2.1.below (by rw [hX]; exact hb3)
 have hdl := H1.out.1.lt
 have hkl := H1.out.2.1.1
 rw [hX] at hdl hkl
 have hit := H1.out.2.2.2.2.2.1 (X + 1)
 have H3 := Lib.hid (And.intro hD3 (And.intro hK3 (And.intro hb3 (And.intro hbc hbb))))
 try rw [hX]
 try rw [hw3]
 clear hw2 hw3 hbc hbb hb3 hD3 hK3
 refine wp_range2 6 7 (gf := 89) (lb := #[.pointer (some ⟨X + 1, 0, none⟩)]) (T := []) rfl (fun _ _ => by kernel_rfl)
  hit (fun k args W h => by rw [h]; rfl) (by simp)
  (fun j W => Blk W X 3 #[.int .i64 (best cl j)] ∧ Below X w W ∧ X + 2 ≤ W.heap.size) (fun _ _ _ => False)
  ?hI (fun _ _ _ _ _ h => h.elim) ?hM (fun k args W1 W2 h _ _ => h) ⟨H3.out.2.2.2.1, H3.out.2.2.1, by omega⟩ ⟨by have := H3.out.2.2.2.2.cell 0; simpa using this, H3.out.1, H3.out.2.1, by omega⟩ ?hM1 ?hassign ?hbody ?hdone ?hstop
 case hI =>
  rintro k W1 W2 S ⟨h1, h2, h4⟩ ht hS
  have hS' : ∀ t ∈ S, t = X + 2 + 1 := by
   intro t h
   rcases hS t h with h | ⟨h, r, hr⟩
   ·simp at h
   ·omega
  exact ⟨h1.turn ht (fun h => by have := hS' _ h; omega), below_turn h2 ht (fun t h => by have := hS' _ h; omega) (by omega), Nat.le_trans h4 ht.size⟩
 case hM =>
  rintro k W1 W2 ⟨h1, h2, h3, h4⟩ ⟨r, hr⟩ ht
  rw [hs3] at hr ht
  exact ⟨cell_turn h1 ht (by simp), h2.turn' ht (by simp; omega) (by simp; omega) (fun t h => by simp at h; subst h; exact noRow_loop hr), h3.turn ht (by simp), Nat.lt_of_lt_of_le h4 ht.size⟩
 case hM1 =>
  intro W ht
  exact ⟨cell_turn (by have := H3.out.2.2.2.2.cell 0; simpa using this) ht (by simp), H3.out.1.turn' ht (by simp) (by simp) (by simp), H3.out.2.1.turn ht (by simp), by have := ht.size; omega⟩
 case hassign =>
  rintro l' args j W K rfl hK
  simp at hK
  gi_wp2
  exact hK
 case hbody =>
  rintro l' j args W hj hlt ⟨hc, hb, hz⟩ hMi rfl
  have c0 := hc.cell 0
  have f0 := hc.frozen 0
  simp only [List.getElem?_toArray, List.getElem?_cons_zero] at c0
  have hb0 := H1.out.2.2.2.2.2.2 j (by omega)
  have hb1 := H1.out.2.2.2.2.2.2 (j + 1) (by omega)
  have hbe : best cl (j + 1) = (match cl j with | none => best cl j | some c => max (best cl j) c) := rfl
  have hclj := H1.out.2.2.1 j (by omega)
  obtain ⟨x, hx⟩ : ∃ x, best cl j = x := ⟨_, rfl⟩
  obtain ⟨y, hy⟩ : ∃ y, best cl (j + 1) = y := ⟨_, rfl⟩
  rw [hx] at hbe hb0 c0 hc
  rw [hy] at hbe hb1
  have HI := Lib.hid (And.intro hc (And.intro hb (And.intro hz (And.intro hMi hy))))
  clear hc hb hz hMi hy
  cases hcj : cl j with
  | none =>
   rw [hcj] at hbe
   simp only at hbe
   subst hbe
   simp only [Option.getD_none, Option.isSome_none]
   clear hx
   gi_wp2
   exact ⟨⟨[], Turn.refl _ _, by simp, by simp⟩, ⟨by rw [HI.out.2.2.2.2]; exact HI.out.1, HI.out.2.1, HI.out.2.2.1⟩, HI.out.2.2.2.1⟩
  | some c =>
   rw [hcj] at hbe hclj
   simp only at hbe
   have hc6 := hclj.lt
   clear hx
   simp only [Option.getD_some, Option.isSome_some]
   have hfin : ∀ z : Int, z = y → (KeepsTwo (X + 2) W (W.setCell ⟨X, 0, none⟩ (.int .i64 z)) ∧ (Blk (W.setCell ⟨X, 0, none⟩ (.int .i64 z)) X 3 #[.int .i64 (best cl (j + 1))] ∧ Below X w (W.setCell ⟨X, 0, none⟩ (.int .i64 z)) ∧ X + 2 ≤ (W.setCell ⟨X, 0, none⟩ (.int .i64 z)).heap.size) ∧ recMine (X + 1) d L s j (W.setCell ⟨X, 0, none⟩ (.int .i64 z))) := by
    rintro z rfl
    have hT : Turn [X] W (W.setCell ⟨X, 0, none⟩ (.int .i64 z)) := (Turn.refl _ _).setCell (.inl (by simp)) _
    obtain ⟨m1, m2, m3, m4⟩ := HI.out.2.2.2.1
    refine ⟨⟨[X], hT, by simp, by simp; omega⟩, ⟨?_, below_turn HI.out.2.1 hT (by simp) (by have := HI.out.2.2.1; omega), by have := hT.size; have := HI.out.2.2.1; omega⟩, cell_turn m1 hT (by simp), m2.turn' hT (by simp; omega) (by simp; omega) (fun t h => by simp at h; subst h; exact HI.out.1.noRow (by decide)), m3.turn hT (by simp; omega), Nat.lt_of_lt_of_le m4 hT.size⟩
    have := HI.out.1.set_ 0 (.int .i64 z)
    rw [HI.out.2.2.2.2]
    simpa using this
   have HF := Lib.hid hfin
   clear hfin hcj hclj
   gi_wp2
   ·exact HF.out _ (by rw [hbe]; omega)
   ·exact HF.out _ (by rw [hbe]; omega)
 case hdone =>
  rintro W hlt ⟨hc, hb, hz⟩ hKd
  rw [hs3] at hKd ⊢
  have c0 := hc.cell 0
  simp only [List.getElem?_toArray, List.getElem?_cons_zero] at c0
  have hDW := H1.out.1.below (by rw [hX]; exact hb)
  have hb2 := H1.out.2.2.2.2.2.2 2 (by omega)
  obtain ⟨x, hx⟩ : ∃ x, best cl 2 = x := ⟨_, rfl⟩
  rw [hx] at c0 hc hb2
  have HI := Lib.hid (And.intro hc (And.intro hb (And.intro hz (And.intro hKd (And.intro hDW hx)))))
  clear hc hb hz hKd hDW hx
  by_cases hneg : x < 0
  ·have hnd : decide (x < 0) = true := decide_eq_true hneg
   go_wp2_with fail
   have hT9 : Turn [X + 2] W (W.putObj (X + 2) (.deferred none)) := (Turn.refl _ _).putObj (.inl (by simp)) _
   try simp only [Exit.noGoto]
   refine ret_cell rfl HI.out.2.2.2.1 (v := .tuple #[.pointer none, .int .i64 5]) ?_ ⟨.inl ⟨by rw [HI.out.2.2.2.2.2]; exact hneg, rfl⟩, by rw [hX]; exact below_turn HI.out.2.1 hT9 (by simp) (by have := HI.out.2.2.1; omega)⟩
   exact results_tmp2 (fn := Tryz.f33) (t := 2) (u := 3) rfl _ _ _
  ·have hnd : decide (x < 0) = false := decide_eq_false hneg
   obtain ⟨c, rfl⟩ : ∃ c : Nat, x = c := ⟨x.toNat, by omega⟩
   clear hneg
   have hw1 : IntKind.i64.wrap ((s.n : Int) - 8) = (s.n : Int) - 8 := IntWalk.i64_in _ (by omega)
   have hB9 := H1.out.2.2.2.2.1
   have hBn : IntKind.i64.wrap (B : Int) = (B : Int) := IntWalk.i64_in _ (by rw [← hB9, Int.tdiv_eq_ediv_of_nonneg (by omega)]; omega)
   clear hB9
   go_wp2_with fail
   refine region_old (by kernel_rfl) (fun wd hHeld hSz => ?_)
   have HSz := Lib.hid hSz
   clear hSz
   refine tkS 0 hHeld ?_
   refine tkS 1 hHeld ?_
   refine tkS 5 hHeld ?_ (hy := by intro wq hSw; have c5 := cell_old hSw c0; clear hSw; go_simp; try with_reducible rfl)
   refine rdL 2 (fun K hK => ?_)
   go_simp
   refine (H1.out.2.2.2.1 _ (HI.out.2.2.2.2.1.below ((hHeld).mono (Nat.le_refl _)))).mono ?_
   rintro e w' ⟨rfl, rfl⟩
   refine hK.out _ _ (by repeat (first | exact hHeld | exact Old.refl _ | assumption | refine Old.drew ?_ | refine Old.drewN ?_ _ | refine Old.alloc ?_ _)) (fun hHeld => ?_)
   clear hK K
   try simp only [Act.put, sA, sB, sC]
   refine tkS 3 hHeld ?_ (hy := by intro wq hSw; skip; clear hSw; go_simp; try with_reducible rfl)
   refine tkS 4 hHeld ?_ (hy := by intro wq hSw; have hBi := H1.out.2.2.2.2.1; clear hSw; go_simp; try with_reducible rfl)
   refine tkS 6 hHeld ?_
   refine rdL 7 (fun K hK => ?_)
   go_simp
   have hHeld2 := hHeld
   refine hK.out _ _ (by repeat (first | exact hHeld | exact Old.refl _ | assumption | refine Old.drew ?_ | refine Old.drewN ?_ _ | refine Old.alloc ?_ _)) (fun hHeld => ?_)
   clear hK K
   try simp only [Act.put, sA, sB, sC]
   refine tkS 8 hHeld ?_
   refine tkS 9 hHeld ?_
   refine wpAnyH_done (by kernel_rfl) ?_ _
   refine NoPanic.normal ?_
   try simp only [Exit.then]
   go_wp2_with fail
   simp only [Exit.noGoto]
   have hz := HI.out.2.2.1
   have hT9 : Turn [X + 2] W (World.putObj (wd.alloc (.cells #[.pointer (some ⟨d, 0, none⟩), .int .i64 (B : Int), .int .i64 (c : Int), .bool false] 109)) (X + 2) (.deferred none)) := (Turn.of_below [X + 2] hHeld).trans ((Turn.refl _ _).putObj (.inl (by simp)) _) (fun x hx => .inl hx)
   have hwd := HSz.out
   refine ret_cell rfl ((hHeld.block (X + 2) (by omega)).trans HI.out.2.2.2.1) (v := .tuple #[.pointer (some ⟨wd.heap.size, 0, none⟩), .int .i64 0]) ?_ ⟨.inr ⟨c, wd.heap.size, HI.out.2.2.2.2.2, rfl, by omega, ?_⟩, by rw [hX]; exact below_turn HI.out.2.1 hT9 (by simp) (by omega)⟩
   ·exact results_tmp2 (fn := Tryz.f33) (t := 2) (u := 3) rfl _ _ _
   ·unfold VolB
    exact (Blk.new _ _ _).turn ((Turn.refl [X + 2] _).putObj (.inl (by simp)) _) (by simp; omega)
 case hstop =>
  rintro cc j W hlt hjq h
  exact h.elim
end Go.Proofs.YtgjnmpjimhbfgaaGreatDoor
namespace Go.Proofs.YtgjnmpjimhbfgaaGreatDoor
set_option maxRecDepth 100000
open Go.RowKit
structure PutV where
 blk : Int
 A : Option Addr
 n : Nat
 c : Nat
 l : List UInt8
structure PutsAt (w : World) (P : Nat) (ps : List PutV) : Prop where
 at_ : ∀ k p, ps[k]? = some p → w.cell? ⟨P, k * 2, none⟩ = some (.int .i64 p.blk) ∧ w.cell? ⟨P, k * 2 + 1, none⟩ = some (.slice p.A p.n p.c) ∧ Rd w p.A p.n p.c p.l
 lt : P < w.heap.size
theorem PutsAt.below {w w' : World} {P : Nat} {ps : List PutV} (h : PutsAt w P ps) (hb : Below w.heap.size w w') : PutsAt w' P ps :=
 ⟨fun k p hk => by
  obtain ⟨h1, h2, h3⟩ := h.at_ k p hk
  exact ⟨(hb.cell (p := ⟨P, k * 2, none⟩) h.lt).trans h1, (hb.cell (p := ⟨P, k * 2 + 1, none⟩) h.lt).trans h2, h3.below hb⟩, Nat.lt_of_lt_of_le h.lt hb.size⟩
def okP (B : Nat) (p : PutV) : Bool := decide (0 ≤ p.blk) && decide (p.blk < B) && decide (p.l.length = 256)
def mayP (B : Nat) (ps : List PutV) : Bool := decide (ps.length ≤ B) && ps.all (okP B)
theorem may_stop {B k : Nat} {ps : List PutV} {p : PutV} (hk : ps[k]? = some p) (h : okP B p = false) : mayP B ps = false := by
 unfold mayP
 have hm : p ∈ ps := List.mem_of_getElem? hk
 have : ps.all (okP B) = false := by
  cases h2 : ps.all (okP B) with
  | false => rfl
  | true => rw [List.all_eq_true] at h2; rw [h2 p hm] at h; cases h
 rw [this, Bool.and_false]
theorem take_all {B k : Nat} {ps : List PutV} {p : PutV} (hk : ps[k]? = some p) (h : okP B p = true) (ht : (ps.take k).all (okP B) = true) : (ps.take (k + 1)).all (okP B) = true := by
 rw [List.take_add_one, hk, List.all_append, ht]
 simp [h]
theorem may_many (v d B cm : Nat) (br : Bool) (A : Option Addr) (n c : Nat) (w : World) (h : VolB w v d B cm br) (hn : B < n) :
  Calls Tryz.prog 64 #[.pointer (some ⟨v, 0, none⟩), .slice A n c] w fun e w' => e = .returned (.bool false) ∧ w = w' := by
 obtain ⟨c0, c1, c2, c3⟩ := h.cells
 have t1 : (B : Int) < (n : Int) := by omega
 have t2 : decide ((B : Int) < (n : Int)) = true := decide_eq_true t1
 clear h
 go_enter Tryz.func64, Tryz.ntmps64
 go_wp2_with fail
 go_ret
 exact ⟨rfl, rfl⟩
theorem may_any (v d B cm : Nat) (br : Bool) (P c : Nat) (ps : List PutV) (w : World) (h : VolB w v d B cm br) (hP : PutsAt w P ps) (hn : ps.length ≤ B) (hB : B ≤ 1000) :
  Calls Tryz.prog 64 #[.pointer (some ⟨v, 0, none⟩), .slice (some ⟨P, 0, none⟩) ps.length c] w fun e w' => e = .returned (.bool (mayP B ps)) ∧ Old w w' := by
 obtain ⟨N, hN⟩ : ∃ N, ps.length = N := ⟨_, rfl⟩
 rw [hN] at hn ⊢
 have HV := Lib.hid (And.intro h (And.intro hP hN))
 have t1 : ¬ (B : Int) < (N : Int) := by omega
 have t2 : decide ((B : Int) < (N : Int)) = false := decide_eq_false t1
 obtain ⟨c0, c1, c2, c3⟩ := h.cells
 clear h hP hN
 go_enter Tryz.func64, Tryz.ntmps64
 go_wp2_with fail
 clear c0 c1 c2 c3 t1 t2
 go_loopw [20] (fun i wr => ∃ k : Nat, k ≤ N ∧ i = .int .i64 (k : Int) ∧ Old w wr ∧ (ps.take k).all (okP B) = true) (fun i _ => N - (intOf i).toNat)
 case atStart => exact ⟨0, by omega, rfl, Old.refl _, rfl⟩
 case round =>
  obtain ⟨k, hk, rfl, hO, hA⟩ := hrel
  have HR := Lib.hid (And.intro hO hA)
  clear hO hA
  by_cases hlt : k < N
  ·have hlti : (k : Int) < N := by omega
   have hltd : decide ((k : Int) < (N : Int)) = true := decide_eq_true hlti
   obtain ⟨p, hp⟩ : ∃ p, ps[k]? = some p := ⟨_, List.getElem?_eq_getElem (by rw [HV.out.2.2]; exact hlt)⟩
   have hPr := HV.out.2.1.below HR.out.1
   obtain ⟨k0, k1, hr⟩ := hPr.at_ k p hp
   have hvc := VolB.cells (Blk.below HV.out.1 HR.out.1)
   have hnl := hr.1
   obtain ⟨blk, A2, n2, c2, l2⟩ := p
   simp only at k0 k1 hr hnl
   have HP := Lib.hid (And.intro hp (And.intro hnl hvc))
   clear hPr hr hp hnl hvc
   go_wp2_with fail
   obtain ⟨X, hX⟩ : ∃ X, wr.heap.size = X := ⟨_, rfl⟩
   obtain ⟨W1, hW1⟩ : ∃ W1, wr.alloc (.cells #[.int .i64 blk, .slice A2 n2 c2] 113) = W1 := ⟨_, rfl⟩
   have hbX : Blk W1 X 113 #[.int .i64 blk, .slice A2 n2 c2] := by rw [← hW1, ← hX]; exact Blk.new _ _ _
   have hOX : Old wr W1 := by rw [← hW1]; exact (Old.refl _).alloc _
   have x0 := hbX.cell 0
   have x1 := hbX.cell 1
   simp only [List.getElem?_toArray, List.getElem?_cons_zero, List.getElem?_cons_succ] at x0 x1
   have vc := cell_old hOX HP.out.2.2.2.1
   have HX := Lib.hid (And.intro (Old.trans HR.out.1 hOX) (And.intro hX hOX))
   have HVC := Lib.hid vc
   have HX0 := Lib.hid x0
   have HX1 := Lib.hid x1
   rw [hX, hW1]
   clear hbX hOX x0 x1 vc k0 k1 hX hW1
   by_cases hneg : blk < 0
   ·have hng : decide (blk < 0) = true := decide_eq_true hneg
    refine region_old (by kernel_rfl) (fun wd hHeld hSz => ?_)
    have HSz := Lib.hid hSz
    clear hSz
    refine tkS 0 hHeld ?_
    refine tkS 1 hHeld ?_ (hy := by intro wq hSw; have z0 := cell_old hSw HX0.out; clear hSw; go_simp; try with_reducible rfl)
    refine tkS 2 hHeld ?_
    refine tkS 3 hHeld ?_
    refine takeL (i := 4) (v := undef) rfl (by kernel_rfl) (by kernel_rfl) (by kernel_rfl) (fun _ _ _ h => h) (Or.inr ⟨by rfl, rfl⟩) hHeld ?_
    try simp only [Act.put, sA, sB, sC]
    refine takeL (i := 5) (v := undef) rfl (by kernel_rfl) (by kernel_rfl) (by kernel_rfl) (fun _ _ _ h => h) (Or.inr ⟨by rfl, rfl⟩) hHeld ?_
    try simp only [Act.put, sA, sB, sC]
    refine takeL (i := 6) (v := undef) rfl (by kernel_rfl) (by kernel_rfl) (by kernel_rfl) (fun _ _ _ h => h) (Or.inr ⟨by rfl, rfl⟩) hHeld ?_
    try simp only [Act.put, sA, sB, sC]
    refine takeL (i := 7) (v := undef) rfl (by kernel_rfl) (by kernel_rfl) (by kernel_rfl) (fun _ _ _ h => h) (Or.inr ⟨by rfl, rfl⟩) hHeld ?_
    try simp only [Act.put, sA, sB, sC]
    refine takeL (i := 8) (v := undef) rfl (by kernel_rfl) (by kernel_rfl) (by kernel_rfl) (fun _ _ _ h => h) (Or.inr ⟨by rfl, rfl⟩) hHeld ?_
    try simp only [Act.put, sA, sB, sC]
    refine takeL (i := 9) (v := undef) rfl (by kernel_rfl) (by kernel_rfl) (by kernel_rfl) (fun _ _ _ h => h) (Or.inr ⟨by rfl, rfl⟩) hHeld ?_
    try simp only [Act.put, sA, sB, sC]
    refine takeL (i := 10) (v := undef) rfl (by kernel_rfl) (by kernel_rfl) (by kernel_rfl) (fun _ _ _ h => h) (Or.inr ⟨by rfl, rfl⟩) hHeld ?_
    try simp only [Act.put, sA, sB, sC]
    refine tkS 11 hHeld ?_
    refine tkS 12 hHeld ?_
    refine takeL (i := 13) (v := undef) rfl (by kernel_rfl) (by kernel_rfl) (by kernel_rfl) (fun _ _ _ h => h) (Or.inr ⟨by rfl, rfl⟩) hHeld ?_
    try simp only [Act.put, sA, sB, sC]
    refine takeL (i := 14) (v := undef) rfl (by kernel_rfl) (by kernel_rfl) (by kernel_rfl) (fun _ _ _ h => h) (Or.inr ⟨by rfl, rfl⟩) hHeld ?_
    try simp only [Act.put, sA, sB, sC]
    refine takeL (i := 15) (v := undef) rfl (by kernel_rfl) (by kernel_rfl) (by kernel_rfl) (fun _ _ _ h => h) (Or.inr ⟨by rfl, rfl⟩) hHeld ?_
    try simp only [Act.put, sA, sB, sC]
    refine takeL (i := 16) (v := undef) rfl (by kernel_rfl) (by kernel_rfl) (by kernel_rfl) (fun _ _ _ h => h) (Or.inr ⟨by rfl, rfl⟩) hHeld ?_
    try simp only [Act.put, sA, sB, sC]
    refine tkS 17 hHeld ?_
    refine wpAnyH_done (by kernel_rfl) ?_ _
    refine NoPanic.normal ?_
    try simp only [Exit.then]
    go_wp2_with fail
    go_ret
    refine ⟨?_, Old.trans HX.out.1 hHeld⟩
    rw [may_stop (B := B) HP.out.1 (by have hnl := HP.out.2.1; unfold okP; simp; omega)]; rfl
   ·have hng : decide (blk < 0) = false := decide_eq_false hneg
    by_cases hge : (B : Int) ≤ blk
    ·have hgd : decide ((B : Int) ≤ blk) = true := decide_eq_true hge
     refine region_old (by kernel_rfl) (fun wd hHeld hSz => ?_)
     have HSz := Lib.hid hSz
     clear hSz
     refine tkS 0 hHeld ?_
     refine tkS 1 hHeld ?_ (hy := by intro wq hSw; have z0 := cell_old hSw HX0.out; clear hSw; go_simp; try with_reducible rfl)
     refine tkS 2 hHeld ?_
     refine tkS 3 hHeld ?_
     refine tkS 4 hHeld ?_
     refine tkS 5 hHeld ?_ (hy := by intro wq hSw; have z0 := cell_old hSw HX0.out; clear hSw; go_simp; try with_reducible rfl)
     refine tkS 6 hHeld ?_
     refine tkS 7 hHeld ?_
     refine tkS 8 hHeld ?_
     refine tkS 9 hHeld ?_ (hy := by intro wq hSw; have zv := cell_old hSw HVC.out; clear hSw; go_simp; try with_reducible rfl)
     refine tkS 10 hHeld ?_
     refine tkS 11 hHeld ?_
     refine tkS 12 hHeld ?_
     refine takeL (i := 13) (v := undef) rfl (by kernel_rfl) (by kernel_rfl) (by kernel_rfl) (fun _ _ _ h => h) (Or.inr ⟨by rfl, rfl⟩) hHeld ?_
     try simp only [Act.put, sA, sB, sC]
     refine takeL (i := 14) (v := undef) rfl (by kernel_rfl) (by kernel_rfl) (by kernel_rfl) (fun _ _ _ h => h) (Or.inr ⟨by rfl, rfl⟩) hHeld ?_
     try simp only [Act.put, sA, sB, sC]
     refine takeL (i := 15) (v := undef) rfl (by kernel_rfl) (by kernel_rfl) (by kernel_rfl) (fun _ _ _ h => h) (Or.inr ⟨by rfl, rfl⟩) hHeld ?_
     try simp only [Act.put, sA, sB, sC]
     refine takeL (i := 16) (v := undef) rfl (by kernel_rfl) (by kernel_rfl) (by kernel_rfl) (fun _ _ _ h => h) (Or.inr ⟨by rfl, rfl⟩) hHeld ?_
     try simp only [Act.put, sA, sB, sC]
     refine tkS 17 hHeld ?_
     refine wpAnyH_done (by kernel_rfl) ?_ _
     refine NoPanic.normal ?_
     try simp only [Exit.then]
     go_wp2_with fail
     go_ret
     refine ⟨?_, Old.trans HX.out.1 hHeld⟩
     rw [may_stop (B := B) HP.out.1 (by have hnl := HP.out.2.1; unfold okP; simp; omega)]; rfl
    ·have hgd : decide ((B : Int) ≤ blk) = false := decide_eq_false hge
     by_cases h256 : n2 = 256
     ·subst h256
      refine region_old (by kernel_rfl) (fun wd hHeld hSz => ?_)
      have HSz := Lib.hid hSz
      clear hSz
      refine tkS 0 hHeld ?_
      refine tkS 1 hHeld ?_ (hy := by intro wq hSw; have z0 := cell_old hSw HX0.out; clear hSw; go_simp; try with_reducible rfl)
      refine tkS 2 hHeld ?_
      refine tkS 3 hHeld ?_
      refine tkS 4 hHeld ?_
      refine tkS 5 hHeld ?_ (hy := by intro wq hSw; have z0 := cell_old hSw HX0.out; clear hSw; go_simp; try with_reducible rfl)
      refine tkS 6 hHeld ?_
      refine tkS 7 hHeld ?_
      refine tkS 8 hHeld ?_
      refine tkS 9 hHeld ?_ (hy := by intro wq hSw; have zv := cell_old hSw HVC.out; clear hSw; go_simp; try with_reducible rfl)
      refine tkS 10 hHeld ?_
      refine tkS 11 hHeld ?_
      refine tkS 12 hHeld ?_
      refine tkS 13 hHeld ?_
      refine tkS 14 hHeld ?_ (hy := by intro wq hSw; have z1 := cell_old hSw HX1.out; clear hSw; go_simp; try with_reducible rfl)
      refine tkS 15 hHeld ?_
      refine tkS 16 hHeld ?_
      refine tkS 17 hHeld ?_
      refine wpAnyH_done (by kernel_rfl) ?_ _
      refine NoPanic.normal ?_
      try simp only [Exit.then]
      go_wp2_with fail
      go_roundw
      case measure => simp [intOf]; omega
      exact ⟨k + 1, by omega, by simp, Old.trans HX.out.1 hHeld, take_all HP.out.1 (by have hnl := HP.out.2.1; unfold okP; simp; omega) HR.out.2⟩
     ·have hn2 : ¬ (n2 : Int) = 256 := by omega
      have hn2d : decide ((n2 : Int) = 256) = false := decide_eq_false hn2
      refine region_old (by kernel_rfl) (fun wd hHeld hSz => ?_)
      have HSz := Lib.hid hSz
      clear hSz
      refine tkS 0 hHeld ?_
      refine tkS 1 hHeld ?_ (hy := by intro wq hSw; have z0 := cell_old hSw HX0.out; clear hSw; go_simp; try with_reducible rfl)
      refine tkS 2 hHeld ?_
      refine tkS 3 hHeld ?_
      refine tkS 4 hHeld ?_
      refine tkS 5 hHeld ?_ (hy := by intro wq hSw; have z0 := cell_old hSw HX0.out; clear hSw; go_simp; try with_reducible rfl)
      refine tkS 6 hHeld ?_
      refine tkS 7 hHeld ?_
      refine tkS 8 hHeld ?_
      refine tkS 9 hHeld ?_ (hy := by intro wq hSw; have zv := cell_old hSw HVC.out; clear hSw; go_simp; try with_reducible rfl)
      refine tkS 10 hHeld ?_
      refine tkS 11 hHeld ?_
      refine tkS 12 hHeld ?_
      refine tkS 13 hHeld ?_
      refine tkS 14 hHeld ?_ (hy := by intro wq hSw; have z1 := cell_old hSw HX1.out; clear hSw; go_simp; try with_reducible rfl)
      refine tkS 15 hHeld ?_
      refine tkS 16 hHeld ?_
      refine tkS 17 hHeld ?_
      refine wpAnyH_done (by kernel_rfl) ?_ _
      refine NoPanic.normal ?_
      try simp only [Exit.then]
      go_wp2_with fail
      go_ret
      refine ⟨?_, Old.trans HX.out.1 hHeld⟩
      rw [may_stop (B := B) HP.out.1 (by have hnl := HP.out.2.1; unfold okP; simp; omega)]; rfl
  ·obtain rfl : k = N := by omega
   have hlti : ¬ (k : Int) < k := by omega
   have hltd : decide ((k : Int) < (k : Int)) = false := decide_eq_false hlti
   go_wp2_with fail
   go_ret
   refine ⟨?_, HR.out.1⟩
   have hm : mayP B ps = true := by
    unfold mayP
    have h2 := HR.out.2
    rw [List.take_of_length_le (by rw [HV.out.2.2]; omega)] at h2
    rw [h2, HV.out.2.2, decide_eq_true hn]; rfl
   rw [hm]; rfl
end Go.Proofs.YtgjnmpjimhbfgaaGreatDoor
