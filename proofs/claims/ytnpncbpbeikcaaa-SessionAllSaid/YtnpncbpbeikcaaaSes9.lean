/-
  The laws' begun: one login is told.
-/
import Derived.Test.YtnpncbpbeikcaaaSes8
namespace Go.Proofs.Ytnpncbpbeikcaaa
open Go.RowKit Go.Maps
attribute [local go_sem] Oper.semAt_some

def bT1 : PT := ⟨[⟨1, 3, 1, true⟩], 1, fun _ _ => none, 0⟩
def bT2 : PT := ⟨[⟨1, 3, 1, true⟩], 1, putW (fun _ _ => none) 3 1 1, 1⟩
theorem bf1 : PT.empty.openW 3 1 true = (1, 0, bT1) := by rfl
theorem bf2 : bT1.mayW 3 1 1 = 0 := by decide
theorem bf2' : bT1.loginW 3 1 1 = bT2 := by unfold PT.loginW; rw [if_pos bf2]; rfl
theorem bf3 : bT2.slotW 3 1 = (1, true) := by decide
theorem bf4 : bT2.stateW 3 1 = 3 := by decide
theorem bf5 : bT2.usedW 1 = true := by decide
theorem bf6 : bT2.mayW 3 1 0 = 260 := by decide
theorem bf7 : (bT2.l.filter (fun x => decide (x.c = 3))).map PS.h = [1] := by decide
theorem bf8 : (bT2.of 3 1).length = 1 := by decide
theorem Below.of_turn {B : Nat} {S : List Nat} {w W1 W2 : World} (h : Below B w W1) (ht : Turn S W1 W2) (hS : ∀ t ∈ S, B ≤ t) (hB : B ≤ W1.heap.size) : Below B w W2 := below_turn h ht hS hB
theorem notNilA (caps : Array Value) (w : World) : (binOp .eql 46 (.func (.func 40) #[] caps) .nilFunc).run Try.prog w = .ok (.bool false) w := by kernel_rfl
theorem Did.into {B p : Nat} {S : List Nat} {w w' : World} {v : Value} {T' : PT} {e : Ending} (h : Did B p S w v T' e w') : ∃ S', e = .returned v ∧ Tb w' B p S' T' ∧ Turn S w w' ∧ InOr S S' w.heap.size := by
  obtain ⟨h0, S', h1⟩ := h
  exact ⟨S', h0, h1⟩
set_option maxRecDepth 100000 in
set_option maxHeartbeats 4000000 in
theorem begun_any (w : World) : Calls Try.prog 6 #[] w fun e w' => e = .returned (.bool true) ∧ Below w.heap.size w w' := by
  obtain ⟨X, hX⟩ : ∃ X, w.heap.size = X := ⟨_, rfl⟩
  have hn := new_any w
  rw [hX] at hn
  have HX := Lib.hid hX
  refine calls_of_marks Try.func6 rfl ?_
  simp only [Try.ntmps6, List.size_toArray, List.length_cons, List.length_nil, Nat.reduceAdd, Nat.reduceSub, Array.replicate_succ, Array.replicate_zero, List.push_toArray, List.append_toArray, List.nil_append, List.cons_append]
  go_wp2_with fail
  refine hn.mono ?_
  rintro e w1 ⟨rfl, hT1, hb1⟩
  have H1 := Lib.hid (And.intro hT1 hb1)
  clear hT1 hb1 hn hX
  go_wp2_with fail
  have ho := openW_any X (X + 1) _ PT.empty 3 1 true w1 H1.out.1 (by decide) (by decide) (by unfold wf64; decide) (by unfold wf64; decide)
  rw [bf1] at ho
  refine ho.mono ?_
  rintro e w2 hd
  obtain ⟨S2, rfl, hT2, ht2, hi2⟩ := hd.into
  have hb2 : Below X w w2 := below_turn H1.out.2 ht2 (fun x hx => (H1.out.1.ge x hx).1) (by rw [← HX.out]; exact H1.out.2.size)
  have H2 := Lib.hid (And.intro hT2 hb2)
  clear hd hT2 ht2 hi2 hb2 ho
  go_wp2_with fail
  have ho := login_any X (X + 1) S2 bT1 3 1 1 w2 H2.out.1 (by unfold wf64; decide) (by unfold wf64; decide) (by unfold wf64; decide) (by decide)
  rw [bf2, bf2'] at ho
  refine ho.mono ?_
  rintro e w3 hd
  obtain ⟨S3, rfl, hT3, ht3, hi3⟩ := hd.into
  have hb3 : Below X w w3 := below_turn H2.out.2 ht3 (fun x hx => (H2.out.1.ge x hx).1) (by rw [← HX.out]; exact H2.out.2.size)
  have H3 := Lib.hid (And.intro hT3 hb3)
  clear hd hT3 ht3 hi3 hb3 ho
  go_wp2_with fail
  have ho := slot_any X (X + 1) S3 bT2 3 1 w3 H3.out.1
  rw [bf3] at ho
  refine ho.mono ?_
  rintro e w4 ⟨rfl, rfl⟩
  clear ho
  go_wp2_with fail
  refine (all_any (some ⟨X + 1, 0, none⟩) 3 1 w3).mono ?_
  rintro e w4 ⟨rfl, hb4, k0, k1, k2, hs4⟩
  obtain ⟨Y, hY⟩ : ∃ Y, w3.heap.size = Y := ⟨_, rfl⟩
  rw [hY] at k0 k1 k2 hs4
  have hT4 := H3.out.1.below hb4
  have hb4' : Below X w w4 := H3.out.2.trans (hb4.mono (by rw [← HX.out]; exact H3.out.2.size))
  obtain ⟨A, m, c, mb, hTA, hS⟩ := hT4
  have hge := H3.out.1.ge
  have hM : AllMine Y X (X + 1) A m c mb bT2 3 1 (Y + 3) 0 w4 := ⟨k0, k1, k2, hTA, by omega, fun x hx => by have := (hge x (by rw [hS]; exact hx)).2; omega⟩
  have H4 := Lib.hid (And.intro hM (And.intro hb4' (And.intro hs4 (And.intro hTA hS))))
  have HY := Lib.hid hY
  rw [hY]
  clear hb4 k0 k1 k2 hs4 hb4' hTA hS hM hge hY
  have hnn := notNilA #[.pointer (some ⟨Y, 0, none⟩), .pointer (some ⟨Y + 1, 0, none⟩), .pointer (some ⟨Y + 2, 0, none⟩)] w4
  go_wp2_with fail
  obtain ⟨w5, hw5⟩ : ∃ w5, w4.alloc (.cells #[.int .i64 0] 3) = w5 := ⟨_, rfl⟩
  have hb5 : Below w4.heap.size w4 w5 := by rw [← hw5]; exact (Below.refl _ _).alloc (Nat.le_refl _) _
  have b5 : Blk w5 (Y + 3) 3 #[.int .i64 0] := by rw [← hw5, ← H4.out.2.2.1]; exact Blk.new _ _ _
  have hs5 : w5.heap.size = Y + 4 := by rw [← hw5]; simp [H4.out.2.2.1]
  have hM5 := H4.out.1.turn (k' := 0) (Turn.of_below [] hb5) (by simp)
  have hs4 := H4.out.2.2.1
  rw [hw5]
  try rw [hs4]
  have H5 := Lib.hid (And.intro hb5 (And.intro b5 (And.intro hs5 hM5)))
  clear hw5 hb5 b5 hM5 hs4
  refine wp_range0 (gf := 40) (lb := #[.pointer (some ⟨Y, 0, none⟩), .pointer (some ⟨Y + 1, 0, none⟩), .pointer (some ⟨Y + 2, 0, none⟩)]) (T := []) rfl (fun _ _ => by kernel_rfl)
    (all_iter Y X (X + 1) A m c mb bT2 3 1 (Y + 3)) (fun k args W h => by obtain ⟨x, _, rfl⟩ := h; rfl) (by simp)
    (fun k W => Blk W (Y + 3) 3 #[.int .i64 (k : Int)] ∧ Turn [Y + 3] w5 W)
    (fun _ _ _ => False)
    ?hI ?hIx ?hM ?hA ⟨H5.out.2.1, Turn.refl _ _⟩ ?hM0 ?hM1 ?hbody ?hdone ?hstop
  case hI =>
    rintro k W1 W2 S ⟨h1, h2⟩ ht hS
    have hS' : ∀ t ∈ S, Y + 3 < t := by
      intro t h
      rcases hS t h with h | ⟨h, _⟩
      · cases h
      · omega
    exact ⟨h1.turn ht (fun h => by have := hS' _ h; omega), h2.trans ht (fun x hx => .inr (by have := hS' _ hx; omega))⟩
  case hIx => rintro c k W1 W2 S h; exact h.elim
  case hM =>
    rintro k W1 W2 hM ⟨r, hr⟩ ht
    exact hM.turn ht (by simp; omega)
  case hA =>
    rintro k args W1 W2 h ⟨r, hr⟩ ht
    exact h
  case hM0 => exact H5.out.2.2.2
  case hM1 =>
    intro W ht
    exact H5.out.2.2.2.turn ht (by simp)
  case hbody =>
    rintro l' k args W hkN hlt ⟨h1, h2⟩ hMi ⟨x, _, rfl⟩
    have k0 := h1.cell 0
    have f0 := h1.frozen 0
    simp only [List.getElem?_toArray, List.getElem?_cons_zero] at k0
    have g1 : IntKind.i64.wrap ((k : Int) + 1) = (k : Int) + 1 := IntWalk.i64_in _ (by rw [bf8] at hkN; omega)
    have hb := Lib.hid (And.intro h1 (And.intro h2 hMi))
    clear h1 h2 hMi
    gi_wp2
    have hT := (Turn.refl [Y + 3] W).setCell (p := ⟨Y + 3, 0, none⟩) (.inl (by simp)) (.int .i64 ((k : Int) + 1))
    refine ⟨⟨[Y + 3], hT, by simp; omega, by simp; omega⟩, ⟨?_, hb.out.2.1.trans hT (fun x hx => .inl hx)⟩, hb.out.2.2.turn hT (by simp)⟩
    have := hb.out.1.set_ 0 (.int .i64 ((k : Int) + 1))
    simpa using this
  case hstop => rintro c k W _ _ h; exact h.elim
  case hdone =>
    rintro W hlt ⟨h1, h2⟩ hdf
    rw [bf8] at h1
    have k0 := h1.cell 0
    simp only [List.getElem?_toArray, List.getElem?_cons_zero] at k0
    have hT5 : Tb w5 X (X + 1) (blocks A m c mb (X + 1)) bT2 := ⟨A, m, c, mb, H5.out.2.2.2.tab, rfl⟩
    have hTW : TbAt W X (X + 1) A m c mb bT2 := H5.out.2.2.2.tab.keep h2 (by simp; have := H5.out.2.2.2.low (X + 1) (by unfold blocks; simp); omega) (by simp; have := H5.out.2.2.2.low mb (by unfold blocks; simp); omega) (fun g hg hm => by have := H5.out.2.2.2.low g (by unfold blocks; simp [hg]); simp at hm; omega)
    have hTb : Tb W X (X + 1) (blocks A m c mb (X + 1)) bT2 := ⟨A, m, c, mb, hTW, rfl⟩
    have hBW : Below X w W := below_turn (H4.out.2.1.trans (H5.out.1.mono (by have := H4.out.2.1.size; rw [HX.out] at this; exact this))) h2 (by simp; have := H5.out.2.2.2.low (X + 1) (by unfold blocks; simp); omega) (by have := H5.out.2.2.1; have := H5.out.2.2.2.low (X + 1) (by unfold blocks; simp); omega)
    have HW := Lib.hid (And.intro hTb (And.intro hBW (And.intro h1 hdf)))
    clear hTb hTW hT5 hBW h1 h2 hdf
    go_wp2_with fail
    have ho := state_any X (X + 1) _ bT2 3 1 W HW.out.1
    rw [bf4] at ho
    refine ho.mono ?_
    rintro e w6 ⟨rfl, hb6⟩
    have H6 := Lib.hid hb6
    clear hb6 ho
    go_wp2_with fail
    have ho := used_any X (X + 1) _ bT2 1 w6 (HW.out.1.below H6.out)
    rw [bf5] at ho
    refine ho.mono ?_
    rintro e w7 ⟨rfl, hb7⟩
    have H7 := Lib.hid (H6.out.trans (hb7.mono H6.out.size))
    clear hb7 ho
    have k0 := (HW.out.2.2.1.below H7.out).cell 0
    simp only [List.getElem?_toArray, List.getElem?_cons_zero] at k0
    go_wp2_with fail
    have ho := may_any X (X + 1) _ bT2 3 1 0 w7 (HW.out.1.below H7.out) (by unfold wf64; decide) (by unfold wf64; decide)
    rw [bf6] at ho
    refine ho.mono ?_
    rintro e w8 ⟨rfl, hb8⟩
    have H8 := Lib.hid (H7.out.trans (hb8.mono H7.out.size))
    clear hb8 ho
    go_wp2_with fail
    have ho := drop_any X (X + 1) _ bT2 3 w8 (HW.out.1.below H8.out)
    rw [bf7] at ho
    refine ho.mono ?_
    rintro e w9 ⟨A9, n9, c9, S9, rfl, hO9, _, hT9, _⟩
    obtain rfl : n9 = 1 := hO9.len
    have hge := (HW.out.1.below H8.out).ge
    have hb9 : Below X w w9 := below_turn (HW.out.2.1.trans (H8.out.mono (by have := HW.out.2.1.size; have := HX.out; omega))) hT9 (fun x hx => (hge x hx).1) (by have := H8.out.size; have := HW.out.2.1.size; have := HX.out; omega)
    have hd9 : w9.heap[w5.heap.size]? = some (.deferred (some [])) := by
      have hlt' : w5.heap.size < W.heap.size := by omega
      have h8 := (H8.out.block _ hlt').trans HW.out.2.2.2
      exact (hT9.block _ (by have := H8.out.size; omega) (fun hm => by have := H5.out.2.2.2.low _ (show w5.heap.size ∈ blocks A m c mb (X + 1) from hm); have := H5.out.2.2.1; omega)).trans h8
    have H9 := Lib.hid (And.intro hb9 hd9)
    clear hb9 hd9 hO9 hT9 hge ho k0
    go_wp2_with fail
    have hd9 := H9.out.2
    rw [hs5] at hd9
    have hT9 : Turn [Y + 4] w9 (w9.putObj (Y + 4) (.deferred none)) := (Turn.refl _ w9).putObj (.inl (by simp)) _
    refine ret_mark (v := .bool true) rfl hd9 (fun W' => by simp [results, Try.results6, go_sem]) ?_
    exact ⟨rfl, by rw [HX.out]; exact below_turn H9.out.1 hT9 (by simp; have := H5.out.2.2.1; have := H5.out.2.2.2.low (X + 1) (by unfold blocks; simp); omega) (by have := H9.out.1.size; have := HX.out; omega)⟩
end Go.Proofs.Ytnpncbpbeikcaaa
