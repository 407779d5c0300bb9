/-
  'baileylaw5.AesBlock' returns true: the block cipher is the reference's. No condition.
-/
import Derived.Test.YtgkkafkdgmdihaaAesO2
import Derived.Test.YtgkkafkdgmdihaaAesL
import Derived.Test.YtgkkafkdgmdihaaAesC2
import Derived.Test.YtgkkafkdgmdihaaAesC4
import Derived.Test.YtgkkafkdgmdihaaShort
import Derived.Test.YtgkkafkdgmdihaaRange2
namespace Go.Proofs.Ytgkkafkdgmdihaa
open Go.RowKit
attribute [local go_sem] Oper.semAt_some

set_option maxRecDepth 100000 in
set_option maxHeartbeats 4000000 in
theorem block_any (A C : Option Addr) (ma ca mb cb : Nat) (k0 l0 : List UInt8) (w : World) (hk : Rd w A ma ca k0) (hl : Rd w C mb cb l0) :
    Calls Try.prog 3 #[.slice A ma ca, .slice C mb cb] w (LawRes w) := by
  have HS1 := Lib.hid (fun w' hw => short_any A ma ca 40 k0 w' (hk.below (w' := w') hw) (by omega))
  have HS2 := Lib.hid (fun w' hw => short_any C mb cb 20 l0 w' (hl.below (w' := w') hw) (by omega))
  have hks := hk.short (n := 40)
  have hls := hl.short (n := 20)
  clear hk hl
  generalize min ma 40 = m1 at *
  generalize k0.take 40 = k at *
  generalize min mb 20 = m2 at *
  generalize l0.take 20 = l at *
  obtain ⟨w0, hw0⟩ : ∃ w0, w.alloc (.cells #[.bool false] 4) = w0 := ⟨_, rfl⟩
  have hb00 : Below w.heap.size w w0 := by rw [← hw0]; exact (Below.refl _ _).alloc (Nat.le_refl _) _
  have hr0 : Blk w0 w.heap.size 4 #[.bool false] := by rw [← hw0]; exact Blk.new _ _ _
  have H0 := Lib.hid (And.intro hb00 (And.intro hr0 (And.intro hks hls)))
  clear hb00 hr0
  by_cases hok : m1 = 16 ∨ m1 = 24 ∨ m1 = 32
  · refine calls_of_marks Try.func3 rfl ?_
    simp only [Try.ntmps3, List.size_toArray, List.length_cons, List.length_nil, Nat.reduceAdd, Nat.reduceSub, Array.replicate_succ, Array.replicate_zero, List.push_toArray, List.append_toArray, List.nil_append, List.cons_append]
    have hkl : k.length = 16 ∨ k.length = 24 ∨ k.length = 32 := by rw [← hks.1]; exact hok
    have HKl := Lib.hid hkl
    clear hkl
    go_wp2_with fail
    try rw [hw0]
    refine (begun_any w0).mono ?_
    rintro e w1 ⟨rfl, hb1⟩
    have h01 := H0.out.1.trans (hb1.mono H0.out.1.size)
    have H1 := Lib.hid (And.intro h01 hb1)
    clear h01 hb1 hw0
    go_wp2_with fail
    refine (HS1.out w1 H1.out.1).mono ?_
    rintro e w9 ⟨rfl, h9⟩
    rw [← h9]
    clear h9 w9
    go_wp2_with fail
    refine (HS2.out w1 H1.out.1).mono ?_
    rintro e w9 ⟨rfl, h9⟩
    rw [← h9]
    clear h9 w9
    clear HS1 HS2
    have hN := Lib.hid (new_any A m1 ca k w1 (hks.below H1.out.1) HKl.out)
    go_wp2_with fail
    refine hN.out.mono ?_
    rintro e w2 ⟨c, K, R, cq, rfl, hCip, hB1⟩
    have h2 := H1.out.1.trans (hB1.mono H1.out.1.size)
    have H2 := Lib.hid (And.intro hCip (And.intro h2 ((H0.out.2.1.below H1.out.2).below hB1)))
    have hR := Lib.hid (rnew_any A m1 ca k w2 (hks.below h2) HKl.out)
    clear hCip hB1 h2 hN
    go_wp2_with fail
    refine hR.out.mono ?_
    rintro e w3 ⟨c2, kb, R2, cap, g1, g2, rfl, hRC, hB2⟩
    have hR2 : R2 = R := by have h1 := hRC.2.2.1; have h2 := H2.out.1.2.2.2.2.2.1; omega
    subst hR2
    have h3 := H2.out.2.1.trans (hB2.mono H2.out.2.1.size)
    have H3 := Lib.hid (And.intro (H2.out.1.below hB2) (And.intro h3 (And.intro (H2.out.2.2.below hB2) hRC)))
    clear hRC hB2 h3 hR H2
    go_wp2_with fail
    obtain ⟨w4, hw4⟩ : ∃ w4, w3.alloc (.cells #[.pointer (some ⟨c2, 0, none⟩)] 27) = w4 := ⟨_, rfl⟩
    rw [hw4]
    have hb4 : Below w3.heap.size w3 w4 := by rw [← hw4]; exact (Below.refl _ _).alloc (Nat.le_refl _) _
    have hx4 : Blk w4 w3.heap.size 27 #[.pointer (some ⟨c2, 0, none⟩)] := by rw [← hw4]; exact Blk.new _ _ _
    have H4 := Lib.hid (And.intro (H3.out.1.below hb4) (And.intro (H3.out.2.1.trans (hb4.mono H3.out.2.1.size)) (And.intro (H3.out.2.2.1.below hb4) (And.intro (H3.out.2.2.2.below hb4) hx4))))
    clear hb4 hx4 hw4
    refine (keysOf_any _ w4 rfl).mono ?_
    rintro e w5 ⟨rfl, hw5⟩
    have hb5 : Below w4.heap.size w4 w5 := by rw [hw5]; exact (Below.refl _ _).alloc (Nat.le_refl _) _
    have hx5 : Blk w5 w4.heap.size 25 #[.pointer (some ⟨c, 0, none⟩)] := by rw [hw5]; exact Blk.new _ _ _
    have H5 := Lib.hid (And.intro (H4.out.1.below hb5) (And.intro (H4.out.2.1.trans (hb5.mono H4.out.2.1.size)) (And.intro (H4.out.2.2.1.below hb5) (And.intro (H4.out.2.2.2.1.below hb5) (And.intro (H4.out.2.2.2.2.below hb5) hx5)))))
    have hz5 : w3.heap.size < w5.heap.size ∧ w4.heap.size < w5.heap.size := ⟨(H4.out.2.2.2.2.below hb5).lt, hx5.lt⟩
    have Hz5 := Lib.hid hz5
    clear hb5 hx5 hw5 hz5
    have kn := neSeq
    go_wp2_with fail
    clear kn
    obtain ⟨w6, hw6⟩ : ∃ w6, w5.alloc (.cells #[.int .i64 0] 3) = w6 := ⟨_, rfl⟩
    rw [hw6]
    have hb6 : Below w5.heap.size w5 w6 := by rw [← hw6]; exact (Below.refl _ _).alloc (Nat.le_refl _) _
    have hk6 : Blk w6 w5.heap.size 3 #[.int .i64 0] := by rw [← hw6]; exact Blk.new _ _ _
    have hz6 : w6.heap.size = w5.heap.size + 1 := by rw [← hw6]; simp
    have H6 := Lib.hid (And.intro hb6 hk6)
    clear hw6 hb6 hk6
    have hcl : c < w5.heap.size := H5.out.1.1.2.2.lt
    have hKl : K < w5.heap.size := H5.out.1.2.2.2.1
    have hxl : w4.heap.size < w5.heap.size := Hz5.out.2
    have hwl : w.heap.size < w5.heap.size := H5.out.2.2.1.lt
    have hR15 : R2 ≤ 15 := H5.out.2.2.2.1.2.2.2.2.1
    have hM00 : keyMine w4.heap.size w1.heap.size c (rks k) K R2 cq w6.heap.size 0 w6 := ⟨H5.out.2.2.2.2.2.below H6.out.1, H5.out.1.below H6.out.1, Nat.le_refl _, by omega, by omega, by omega⟩
    have HM00 := Lib.hid hM00
    have HL := Lib.hid hls
    have hw3l : w.heap.size < w3.heap.size := H3.out.2.2.1.lt
    have hw1l : w.heap.size < w1.heap.size := (H0.out.2.1.below H1.out.2).lt
    clear hM00 hks hls H0 H1 H3 H4
    refine wp_range2 10 11 (gf := 25) (lb := #[.pointer (some ⟨w4.heap.size, 0, none⟩)]) (T := []) rfl (fun _ _ => by kernel_rfl)
      (keys_iter w4.heap.size w1.heap.size c (rks k) K R2 cq w6.heap.size) (fun k args W h => by obtain ⟨A, cq, rfl, _⟩ := h; rfl) (by simp)
      (fun j W => Below w5.heap.size w5 W ∧ Blk W w5.heap.size 3 #[.int .i64 (j : Int)])
      (fun _ _ _ => False)
      ?hI ?hIx ?hM ?hA ⟨H6.out.1, H6.out.2⟩ HM00.out ?hM1 ?hassign ?hbody ?hdone ?hstop
    case hI =>
      rintro j W1 W2 S ⟨h1, h2⟩ ht hS
      have hS' : ∀ t ∈ S, w6.heap.size < t := by
        intro t h
        rcases hS t h with h | ⟨h, _⟩
        · cases h
        · omega
      exact ⟨below_turn h1 ht (fun t h => by have := hS' _ h; omega) h1.size, h2.turn ht (fun h => by have := hS' _ h; omega)⟩
    case hIx => rintro c k W1 W2 S h; exact h.elim
    case hM =>
      rintro k W1 W2 hM ⟨r, hr⟩ ht
      exact hM.turn ht (by simp) k
    case hA =>
      rintro k args W1 W2 ⟨A, cq, rfl, hrd, hge⟩ ⟨r, hr⟩ ht
      refine ⟨A, cq, rfl, hrd.turn ht (fun ad had hm => ?_), hge⟩
      obtain ⟨b, off, e, ha⟩ := hrd.addr (by omega)
      rw [e] at had
      cases had
      simp at hm
      have hkl : (key _ k).length = 16 := hrd.1.symm
      obtain ⟨y, hy⟩ := at16 _ hkl 0 (by omega)
      have := ha.2 0 y hy
      subst hm
      simp [World.cell?, hr] at this
    case hM1 =>
      intro W ht
      exact keyMine.turn (k := 0) HM00.out ht (by simp) 0
    case hassign =>
      rintro l' args j W K ⟨A', cq', rfl, _⟩ hK
      simp at hK
      gi_wp2
      exact hK
    case hbody =>
      rintro l' j args W hjR hlt ⟨hB, hb9⟩ hMi ⟨A', cq', rfl, hrd, hge⟩
      have hrc := H5.out.2.2.2.1.below hB
      obtain ⟨gk, o, hce, hrk⟩ := hrc.2.2.2.2.2.2.1 j hjR
      have h7 := H5.out.2.2.2.2.1.below hB
      have HX := Lib.hid (And.intro h7 (And.intro hb9 (And.intro hrc.1 (And.intro hrc.2.1 (And.intro hce (And.intro hrk (And.intro hrd (And.intro hB hMi))))))))
      have g1 : IntKind.i64.wrap ((j : Int) + 1) = (j : Int) + 1 := IntWalk.i64_in _ (by omega)
      have hd : decide ((R2 : Int) ≤ (j : Int)) = false := decide_eq_false (by omega)
      have hd2 : ¬ ((R2 : Int) ≤ (j : Int)) := by omega
      have hd3 : (j : Int) < R2 := by omega
      clear hrc hce hrk h7 hb9 hB hMi hrd hge
      gi_wp2
      refine region_roundOld (by kernel_rfl) (by rintro ⟨a, w, h⟩; exact h) (by kernel_rfl) (fun wd hHeld hSz => ?_)
      have HSz := Lib.hid hSz
      clear hSz
      refine takeL (i := 0) (v := ?_) rfl (by kernel_rfl) (by kernel_rfl) (by kernel_rfl) (fun _ _ _ h => h) (Or.inl ⟨by rfl, ?_⟩) hHeld ?_
      rotate_left
      focus (intro wq hSw; clear hSw; go_simp; try with_reducible rfl)
      try simp only [Act.put, List.setIfInBounds_toArray, List.set_cons_zero, List.set_cons_succ]
      refine takeL (i := 1) (v := ?_) rfl (by kernel_rfl) (by kernel_rfl) (by kernel_rfl) (fun _ _ _ h => h) (Or.inl ⟨by rfl, ?_⟩) hHeld ?_
      rotate_left
      focus (intro wq hSw; have cq := (HX.out.2.1.below hSw).cell 0; simp only [List.getElem?_toArray, List.getElem?_cons_zero] at cq; clear hSw; go_simp; try with_reducible rfl)
      try simp only [Act.put, List.setIfInBounds_toArray, List.set_cons_zero, List.set_cons_succ]
      refine takeL (i := 2) (v := ?_) rfl (by kernel_rfl) (by kernel_rfl) (by kernel_rfl) (fun _ _ _ h => h) (Or.inl ⟨by rfl, ?_⟩) hHeld ?_
      rotate_left
      focus (intro wq hSw; clear hSw; go_simp; try with_reducible rfl)
      try simp only [Act.put, List.setIfInBounds_toArray, List.set_cons_zero, List.set_cons_succ]
      refine takeL (i := 3) (v := ?_) rfl (by kernel_rfl) (by kernel_rfl) (by kernel_rfl) (fun _ _ _ h => h) (Or.inl ⟨by rfl, ?_⟩) hHeld ?_
      rotate_left
      focus (intro wq hSw; clear hSw; go_simp; try with_reducible rfl)
      try simp only [Act.put, List.setIfInBounds_toArray, List.set_cons_zero, List.set_cons_succ]
      refine takeL (i := 4) (v := ?_) rfl (by kernel_rfl) (by kernel_rfl) (by kernel_rfl) (fun _ _ _ h => h) (Or.inl ⟨by rfl, ?_⟩) hHeld ?_
      rotate_left
      focus (intro wq hSw; have cq := (HX.out.2.1.below hSw).cell 0; simp only [List.getElem?_toArray, List.getElem?_cons_zero] at cq; clear hSw; go_simp; try with_reducible rfl)
      try simp only [Act.put, List.setIfInBounds_toArray, List.set_cons_zero, List.set_cons_succ]
      refine takeL (i := 5) (v := ?_) rfl (by kernel_rfl) (by kernel_rfl) (by kernel_rfl) (fun _ _ _ h => h) (Or.inl ⟨by rfl, ?_⟩) hHeld ?_
      rotate_left
      focus (intro wq hSw; have cq := (HX.out.1.below hSw).cell 0; simp only [List.getElem?_toArray, List.getElem?_cons_zero] at cq; clear hSw; go_simp; try with_reducible rfl)
      try simp only [Act.put, List.setIfInBounds_toArray, List.set_cons_zero, List.set_cons_succ]
      refine takeL (i := 6) (v := ?_) rfl (by kernel_rfl) (by kernel_rfl) (by kernel_rfl) (fun _ _ _ h => h) (Or.inl ⟨by rfl, ?_⟩) hHeld ?_
      rotate_left
      focus (intro wq hSw; clear hSw; go_simp; try with_reducible rfl)
      try simp only [Act.put, List.setIfInBounds_toArray, List.set_cons_zero, List.set_cons_succ]
      refine takeL (i := 7) (v := ?_) rfl (by kernel_rfl) (by kernel_rfl) (by kernel_rfl) (fun _ _ _ h => h) (Or.inl ⟨by rfl, ?_⟩) hHeld ?_
      rotate_left
      focus (intro wq hSw; clear hSw; go_simp; try with_reducible rfl)
      try simp only [Act.put, List.setIfInBounds_toArray, List.set_cons_zero, List.set_cons_succ]
      refine takeL (i := 8) (v := ?_) rfl (by kernel_rfl) (by kernel_rfl) (by kernel_rfl) (fun _ _ _ h => h) (Or.inl ⟨by rfl, ?_⟩) hHeld ?_
      rotate_left
      focus (intro wq hSw; have cq := (HX.out.2.2.1.below hSw).cell 0; simp only [List.getElem?_toArray, List.getElem?_cons_zero] at cq; clear hSw; go_simp; try with_reducible rfl)
      try simp only [Act.put, List.setIfInBounds_toArray, List.set_cons_zero, List.set_cons_succ]
      refine takeL (i := 9) (v := ?_) rfl (by kernel_rfl) (by kernel_rfl) (by kernel_rfl) (fun _ _ _ h => h) (Or.inl ⟨by rfl, ?_⟩) hHeld ?_
      rotate_left
      focus (intro wq hSw; clear hSw; go_simp; try with_reducible rfl)
      try simp only [Act.put, List.setIfInBounds_toArray, List.set_cons_zero, List.set_cons_succ]
      refine takeL (i := 10) (v := .bool false) rfl (by kernel_rfl) (by kernel_rfl) (by kernel_rfl) (fun _ _ _ h => h) (Or.inl ⟨by rfl, ?_⟩) hHeld ?_
      focus (intro wq hSw; clear hSw; go_simp; try with_reducible rfl)
      try simp only [Act.put, List.setIfInBounds_toArray, List.set_cons_zero, List.set_cons_succ]
      refine takeL (i := 11) (v := ?_) rfl (by kernel_rfl) (by kernel_rfl) (by kernel_rfl) (fun _ _ _ h => h) (Or.inl ⟨by rfl, ?_⟩) hHeld ?_
      rotate_left
      focus (intro wq hSw; clear hSw; go_simp; try with_reducible rfl)
      try simp only [Act.put, List.setIfInBounds_toArray, List.set_cons_zero, List.set_cons_succ]
      refine takeL (i := 12) (v := ?_) rfl (by kernel_rfl) (by kernel_rfl) (by kernel_rfl) (fun _ _ _ h => h) (Or.inl ⟨by rfl, ?_⟩) hHeld ?_
      rotate_left
      focus (intro wq hSw; clear hSw; go_simp; try with_reducible rfl)
      try simp only [Act.put, List.setIfInBounds_toArray, List.set_cons_zero, List.set_cons_succ]
      refine takeL (i := 13) (v := ?_) rfl (by kernel_rfl) (by kernel_rfl) (by kernel_rfl) (fun _ _ _ h => h) (Or.inl ⟨by rfl, ?_⟩) hHeld ?_
      rotate_left
      focus (intro wq hSw; clear hSw; go_simp; try with_reducible rfl)
      try simp only [Act.put, List.setIfInBounds_toArray, List.set_cons_zero, List.set_cons_succ]
      refine takeL (i := 14) (v := ?_) rfl (by kernel_rfl) (by kernel_rfl) (by kernel_rfl) (fun _ _ _ h => h) (Or.inl ⟨by rfl, ?_⟩) hHeld ?_
      rotate_left
      focus (intro wq hSw; have hRun := HX.out.2.2.2.2.2.2.1.str_below hSw; clear hSw; go_simp; try with_reducible rfl)
      try simp only [Act.put, List.setIfInBounds_toArray, List.set_cons_zero, List.set_cons_succ]
      refine takeL (i := 15) (v := ?_) rfl (by kernel_rfl) (by kernel_rfl) (by kernel_rfl) (fun _ _ _ h => h) (Or.inl ⟨by rfl, ?_⟩) hHeld ?_
      rotate_left
      focus (intro wq hSw; have cq := (HX.out.1.below hSw).cell 0; simp only [List.getElem?_toArray, List.getElem?_cons_zero] at cq; clear hSw; go_simp; try with_reducible rfl)
      try simp only [Act.put, List.setIfInBounds_toArray, List.set_cons_zero, List.set_cons_succ]
      refine takeL (i := 16) (v := ?_) rfl (by kernel_rfl) (by kernel_rfl) (by kernel_rfl) (fun _ _ _ h => h) (Or.inl ⟨by rfl, ?_⟩) hHeld ?_
      rotate_left
      focus (intro wq hSw; clear hSw; go_simp; try with_reducible rfl)
      try simp only [Act.put, List.setIfInBounds_toArray, List.set_cons_zero, List.set_cons_succ]
      refine takeL (i := 17) (v := ?_) rfl (by kernel_rfl) (by kernel_rfl) (by kernel_rfl) (fun _ _ _ h => h) (Or.inl ⟨by rfl, ?_⟩) hHeld ?_
      rotate_left
      focus (intro wq hSw; clear hSw; go_simp; try with_reducible rfl)
      try simp only [Act.put, List.setIfInBounds_toArray, List.set_cons_zero, List.set_cons_succ]
      refine takeL (i := 18) (v := ?_) rfl (by kernel_rfl) (by kernel_rfl) (by kernel_rfl) (fun _ _ _ h => h) (Or.inl ⟨by rfl, ?_⟩) hHeld ?_
      rotate_left
      focus (intro wq hSw; have cq := (HX.out.2.2.1.below hSw).cell 0; simp only [List.getElem?_toArray, List.getElem?_cons_zero] at cq; clear hSw; go_simp; try with_reducible rfl)
      try simp only [Act.put, List.setIfInBounds_toArray, List.set_cons_zero, List.set_cons_succ]
      refine takeL (i := 19) (v := ?_) rfl (by kernel_rfl) (by kernel_rfl) (by kernel_rfl) (fun _ _ _ h => h) (Or.inl ⟨by rfl, ?_⟩) hHeld ?_
      rotate_left
      focus (intro wq hSw; have cq := (HX.out.2.1.below hSw).cell 0; simp only [List.getElem?_toArray, List.getElem?_cons_zero] at cq; clear hSw; go_simp; try with_reducible rfl)
      try simp only [Act.put, List.setIfInBounds_toArray, List.set_cons_zero, List.set_cons_succ]
      refine takeL (i := 20) (v := ?_) rfl (by kernel_rfl) (by kernel_rfl) (by kernel_rfl) (fun _ _ _ h => h) (Or.inl ⟨by rfl, ?_⟩) hHeld ?_
      rotate_left
      focus (intro wq hSw; clear hSw; go_simp; try with_reducible rfl)
      try simp only [Act.put, List.setIfInBounds_toArray, List.set_cons_zero, List.set_cons_succ]
      refine takeL (i := 21) (v := ?_) rfl (by kernel_rfl) (by kernel_rfl) (by kernel_rfl) (fun _ _ _ h => h) (Or.inl ⟨by rfl, ?_⟩) hHeld ?_
      rotate_left
      focus (intro wq hSw; have cq := (World.cell?_of_block (a := ⟨kb, j, none⟩) (hSw.block kb HX.out.2.2.2.1)).trans HX.out.2.2.2.2.1; clear hSw; go_simp; try with_reducible rfl)
      try simp only [Act.put, List.setIfInBounds_toArray, List.set_cons_zero, List.set_cons_succ]
      refine takeL (i := 22) (v := ?_) rfl (by kernel_rfl) (by kernel_rfl) (by kernel_rfl) (fun _ _ _ h => h) (Or.inl ⟨by rfl, ?_⟩) hHeld ?_
      rotate_left
      focus (intro wq hSw; have hRun := HX.out.2.2.2.2.2.1.str_below hSw; clear hSw; go_simp; try with_reducible rfl)
      try simp only [Act.put, List.setIfInBounds_toArray, List.set_cons_zero, List.set_cons_succ]
      refine takeL (i := 23) (v := ?_) rfl (by kernel_rfl) (by kernel_rfl) (by kernel_rfl) (fun _ _ _ h => h) (Or.inl ⟨by rfl, ?_⟩) hHeld ?_
      rotate_left
      focus (intro wq hSw; clear hSw; go_simp; try with_reducible rfl)
      try simp only [Act.put, List.setIfInBounds_toArray, List.set_cons_zero, List.set_cons_succ]
      refine takeL (i := 24) (v := ?_) rfl (by kernel_rfl) (by kernel_rfl) (by kernel_rfl) (fun _ _ _ h => h) (Or.inl ⟨by rfl, ?_⟩) hHeld ?_
      rotate_left
      focus (intro wq hSw; clear hSw; go_simp; try with_reducible rfl)
      try simp only [Act.put, List.setIfInBounds_toArray, List.set_cons_zero, List.set_cons_succ]
      refine wpAnyH_done (by kernel_rfl) ?_ _
      simp only [Exit.then]
      have c9 := (HX.out.2.1.below hHeld).cell 0
      have f9 := (HX.out.2.1.below hHeld).frozen 0
      simp only [List.getElem?_toArray, List.getElem?_cons_zero] at c9
      have HD := Lib.hid hHeld
      clear hHeld
      gi_wp2
      have hT := (Turn.refl [w5.heap.size] wd).setCell (p := ⟨w5.heap.size, 0, none⟩) (.inl (by simp)) (.int .i64 ((j : Int) + 1))
      have hTW := (Turn.of_below [w5.heap.size] HD.out).trans hT (fun x hx => .inl hx)
      have hB := HX.out.2.2.2.2.2.2.2.1
      refine ⟨⟨[w5.heap.size], hTW, by simp; omega, by simp; omega⟩, ⟨below_turn hB hTW (by simp) hB.size, ?_⟩, HX.out.2.2.2.2.2.2.2.2.turn2 hTW (by simp; omega) (by simp; omega) (by simp; omega) j⟩
      have := (HX.out.2.1.below HD.out).set_ 0 (.int .i64 ((j : Int) + 1))
      simpa using this
    case hdone =>
      rintro W hlt ⟨hB, hb9⟩ hKd
      have hCp := H5.out.1.below hB
      have hrc := H5.out.2.2.2.1.below hB
      have hr0 := H5.out.2.2.1.below hB
      have h7 := H5.out.2.2.2.2.1.below hB
      have hOW := H5.out.2.1.trans (hB.mono H5.out.2.1.size)
      have hrl := HL.out.below hOW
      have hfin : ∀ (Wz : World) (a : Act), a.tmps.getD 4 undef = .pointer (some ⟨w.heap.size, 0, none⟩) → a.defers = [{ target := .collected w6.heap.size, args := #[] }] → Blk Wz w.heap.size 4 #[.bool true] → Old w Wz → Wz.heap[w6.heap.size]? = some (.deferred (some [])) →
          bodyPostM Fence.wide 3 Try.prog Try.f3 (LawRes w) .ret a Wz := by
        intro Wz a ha hd hb ho hK
        have hT := (Turn.refl [w6.heap.size] Wz).putObj (l := w6.heap.size) (.inl (by simp)) (.deferred none)
        refine ret_cell hd hK (v := .bool true) ?_ ⟨rfl, ho.turned hT (by simp; omega)⟩
        exact res_cell rfl ha (hb.turn hT (by simp; omega))
      have Hz6 := Lib.hid hz6
      clear hz6
      have Hfin := Lib.hid hfin
      clear hfin
      have HX := Lib.hid (And.intro h7 (And.intro hb9 (And.intro hrc (And.intro hr0 (And.intro hCp (And.intro hrl (And.intro hOW hKd)))))))
      clear hCp hrc hr0 h7 hOW hrl hB hb9 hKd H5 H6
      by_cases hm : m2 = 16
      · subst hm
        have hm1 : ((16 : Int) != 16) = false := by decide
        go_wp2_with fail
        refine region_turn [w.heap.size] (by kernel_rfl) (fun wd hOld hHeld hSz => ?_)
        have hall : Turn [w.heap.size] W wd := hHeld
        have hr := HX.out.2.2.2.1.below hOld
        have Hwd := Lib.hid (And.intro trivial (And.intro hall hr))
        refine wpAnyH_turn (w1 := wd) hHeld (fun hHeld => ?_) (Turn.refl _ _)
        clear hOld hSz hall hr
        refine takeL (i := 0) (v := ?_) rfl (by kernel_rfl) (by kernel_rfl) (by kernel_rfl) (fun _ _ _ h => h) (Or.inl ⟨by rfl, ?_⟩) hHeld ?_
        rotate_left
        focus (intro wq hSw; clear hSw; go_simp; try with_reducible rfl)
        try simp only [Act.put, List.setIfInBounds_toArray, List.set_cons_zero, List.set_cons_succ]
        refine takeL (i := 1) (v := ?_) rfl (by kernel_rfl) (by kernel_rfl) (by kernel_rfl) (fun _ _ _ h => h) (Or.inl ⟨by rfl, ?_⟩) hHeld ?_
        rotate_left
        focus (intro wq hSw; clear hSw; go_simp; try with_reducible rfl)
        try simp only [Act.put, List.setIfInBounds_toArray, List.set_cons_zero, List.set_cons_succ]
        refine takeL (i := 2) (v := ?_) rfl (by kernel_rfl) (by kernel_rfl) (by kernel_rfl) (fun _ _ _ h => h) (Or.inl ⟨by rfl, ?_⟩) hHeld ?_
        rotate_left
        focus (intro wq hSw; have cq := (HX.out.2.1.turn (Hwd.out.2.1.trans hSw (fun _ h => .inl h)) (by simp; omega)).cell 0; simp only [List.getElem?_toArray, List.getElem?_cons_zero] at cq; clear hSw; go_simp; try with_reducible rfl)
        try simp only [Act.put, List.setIfInBounds_toArray, List.set_cons_zero, List.set_cons_succ]
        refine takeL (i := 3) (v := ?_) rfl (by kernel_rfl) (by kernel_rfl) (by kernel_rfl) (fun _ _ _ h => h) (Or.inl ⟨by rfl, ?_⟩) hHeld ?_
        rotate_left
        focus (intro wq hSw; have cq := (HX.out.1.turn (Hwd.out.2.1.trans hSw (fun _ h => .inl h)) (by simp; omega)).cell 0; simp only [List.getElem?_toArray, List.getElem?_cons_zero] at cq; clear hSw; go_simp; try with_reducible rfl)
        try simp only [Act.put, List.setIfInBounds_toArray, List.set_cons_zero, List.set_cons_succ]
        refine takeL (i := 4) (v := ?_) rfl (by kernel_rfl) (by kernel_rfl) (by kernel_rfl) (fun _ _ _ h => h) (Or.inl ⟨by rfl, ?_⟩) hHeld ?_
        rotate_left
        focus (intro wq hSw; clear hSw; go_simp; try with_reducible rfl)
        try simp only [Act.put, List.setIfInBounds_toArray, List.set_cons_zero, List.set_cons_succ]
        refine takeL (i := 5) (v := ?_) rfl (by kernel_rfl) (by kernel_rfl) (by kernel_rfl) (fun _ _ _ h => h) (Or.inl ⟨by rfl, ?_⟩) hHeld ?_
        rotate_left
        focus (intro wq hSw; clear hSw; go_simp; try with_reducible rfl)
        try simp only [Act.put, List.setIfInBounds_toArray, List.set_cons_zero, List.set_cons_succ]
        refine takeL (i := 6) (v := ?_) rfl (by kernel_rfl) (by kernel_rfl) (by kernel_rfl) (fun _ _ _ h => h) (Or.inl ⟨by rfl, ?_⟩) hHeld ?_
        rotate_left
        focus (intro wq hSw; have cq := (HX.out.2.2.1.far HX.out.2.2.2.1 (Hwd.out.2.1.trans hSw (fun _ h => .inl h))).1.cell 0; simp only [List.getElem?_toArray, List.getElem?_cons_zero] at cq; clear hSw; go_simp; try with_reducible rfl)
        try simp only [Act.put, List.setIfInBounds_toArray, List.set_cons_zero, List.set_cons_succ]
        refine takeL (i := 7) (v := ?_) rfl (by kernel_rfl) (by kernel_rfl) (by kernel_rfl) (fun _ _ _ h => h) (Or.inl ⟨by rfl, ?_⟩) hHeld ?_
        rotate_left
        focus (intro wq hSw; clear hSw; go_simp; try with_reducible rfl)
        try simp only [Act.put, List.setIfInBounds_toArray, List.set_cons_zero, List.set_cons_succ]
        refine takeL (i := 8) (v := .bool true) rfl (by kernel_rfl) (by kernel_rfl) (by kernel_rfl) (fun _ _ _ h => h) (Or.inl ⟨by rfl, ?_⟩) hHeld ?_
        focus (intro wq hSw; clear hSw; go_simp; try with_reducible rfl)
        try simp only [Act.put, List.setIfInBounds_toArray, List.set_cons_zero, List.set_cons_succ]
        refine takeL (i := 9) (v := ?_) rfl (by kernel_rfl) (by kernel_rfl) (by kernel_rfl) (fun _ _ _ h => h) (Or.inl ⟨by rfl, ?_⟩) hHeld ?_
        rotate_left
        focus (intro wq hSw; clear hSw; go_simp; try with_reducible rfl)
        try simp only [Act.put, List.setIfInBounds_toArray, List.set_cons_zero, List.set_cons_succ]
        refine takeL (i := 10) (v := ?_) rfl (by kernel_rfl) (by kernel_rfl) (by kernel_rfl) (fun _ _ _ h => h) (Or.inl ⟨by rfl, ?_⟩) hHeld ?_
        rotate_left
        focus (intro wq hSw; clear hSw; go_simp; try with_reducible rfl)
        try simp only [Act.put, List.setIfInBounds_toArray, List.set_cons_zero, List.set_cons_succ]
        refine takeL (i := 11) (v := ?_) rfl (by kernel_rfl) (by kernel_rfl) (by kernel_rfl) (fun _ _ _ h => h) (Or.inl ⟨by rfl, ?_⟩) hHeld ?_
        rotate_left
        focus (intro wq hSw; clear hSw; go_simp; try with_reducible rfl)
        try simp only [Act.put, List.setIfInBounds_toArray, List.set_cons_zero, List.set_cons_succ]
        refine takeL (i := 12) (v := ?_) rfl (by kernel_rfl) (by kernel_rfl) (by kernel_rfl) (fun _ _ _ h => h) (Or.inl ⟨by rfl, ?_⟩) hHeld ?_
        rotate_left
        focus (intro wq hSw; clear hSw; go_simp; try with_reducible rfl)
        try simp only [Act.put, List.setIfInBounds_toArray, List.set_cons_zero, List.set_cons_succ]
        refine takeL (i := 15) (v := ?_) rfl (by kernel_rfl) (by kernel_rfl) (by kernel_rfl) (fun _ _ _ h => h) (Or.inl ⟨by rfl, ?_⟩) hHeld ?_
        rotate_left
        focus (intro wq hSw; have cq := (HX.out.1.turn (Hwd.out.2.1.trans hSw (fun _ h => .inl h)) (by simp; omega)).cell 0; simp only [List.getElem?_toArray, List.getElem?_cons_zero] at cq; clear hSw; go_simp; try with_reducible rfl)
        try simp only [Act.put, List.setIfInBounds_toArray, List.set_cons_zero, List.set_cons_succ]
        refine takeL (i := 16) (v := ?_) rfl (by kernel_rfl) (by kernel_rfl) (by kernel_rfl) (fun _ _ _ h => h) (Or.inl ⟨by rfl, ?_⟩) hHeld ?_
        rotate_left
        focus (intro wq hSw; clear hSw; go_simp; try with_reducible rfl)
        try simp only [Act.put, List.setIfInBounds_toArray, List.set_cons_zero, List.set_cons_succ]
        refine wpAnyH_ready (rs := [13]) (by kernel_rfl) (by simp) ?_
        refine consL rfl (fun K hK => ?_) AllReadyH.nil
        go_simp
        refine (enc_any _ _ _ _ _ _ _ _ l wd (HX.out.2.2.2.2.1.far hw1l Hwd.out.2.1) (HX.out.2.2.2.2.2.1.turn Hwd.out.2.1 (HX.out.2.2.2.2.2.1.farB (by omega) HX.out.2.2.2.1))).mono ?_
        rintro e x1 ⟨s_x1, rfl, hge, hS, hbx⟩
        have hz : Turn [w.heap.size] wd x1 := Turn.of_below [w.heap.size] hbx
        have hall : Turn [w.heap.size] W x1 := Hwd.out.2.1.trans hz (fun _ h => .inl h)
        have hr := Hwd.out.2.2.below hbx
        have hgt_x1 : w.heap.size < s_x1 := by have := Hwd.out.2.1.size; have := HX.out.2.2.2.1.lt; omega
        have Hx1 := Lib.hid (And.intro hS (And.intro hall hr))
        refine hK.out _ _ hz (fun hHeld => ?_)
        clear hK K hall hr hbx hS hge
        try simp only [Act.put, List.setIfInBounds_toArray, List.set_cons_zero, List.set_cons_succ]
        refine wpAnyH_turn (w1 := x1) hz (fun hHeld => ?_) (Turn.refl _ _)
        clear hz
        refine takeL (i := 14) (v := ?_) rfl (by kernel_rfl) (by kernel_rfl) (by kernel_rfl) (fun _ _ _ h => h) (Or.inl ⟨by rfl, ?_⟩) hHeld ?_
        rotate_left
        focus (intro wq hSw; have hRun := (Hx1.out.1.turn hSw (by simp; omega)).rd.str; clear hSw; go_simp; try with_reducible rfl)
        try simp only [Act.put, List.setIfInBounds_toArray, List.set_cons_zero, List.set_cons_succ]
        refine wpAnyH_ready (rs := [17]) (by kernel_rfl) (by simp) ?_
        refine consL rfl (fun K hK => ?_) AllReadyH.nil
        go_simp
        refine (renc_any _ _ _ _ _ _ _ _ _ l x1 (HX.out.2.2.1.far HX.out.2.2.2.1 Hx1.out.2.1) (HX.out.2.2.2.2.2.1.turn Hx1.out.2.1 (HX.out.2.2.2.2.2.1.farB (by omega) HX.out.2.2.2.1))).mono ?_
        rintro e x2 ⟨s_x2, rfl, hS, hbx⟩
        have hz : Turn [w.heap.size] x1 x2 := Turn.of_below [w.heap.size] hbx
        have hall : Turn [w.heap.size] W x2 := Hx1.out.2.1.trans hz (fun _ h => .inl h)
        have hr := Hx1.out.2.2.below hbx
        have hgt_x2 : w.heap.size < s_x2 := by have := (hS.lt (g := s_x2) rfl).1; have := Hx1.out.2.1.size; have := HX.out.2.2.2.1.lt; omega
        have Hx2 := Lib.hid (And.intro hS (And.intro hall hr))
        refine hK.out _ _ hz (fun hHeld => ?_)
        clear hK K hall hr hbx hS
        try simp only [Act.put, List.setIfInBounds_toArray, List.set_cons_zero, List.set_cons_succ]
        refine wpAnyH_turn (w1 := x2) hz (fun hHeld => ?_) (Turn.refl _ _)
        clear hz
        refine takeL (i := 18) (v := ?_) rfl (by kernel_rfl) (by kernel_rfl) (by kernel_rfl) (fun _ _ _ h => h) (Or.inl ⟨by rfl, ?_⟩) hHeld ?_
        rotate_left
        focus (intro wq hSw; have hRun := (Hx2.out.1.rd.turn hSw (fun ad h => by cases h; simp; omega)).str; clear hSw; go_simp; try with_reducible rfl)
        try simp only [Act.put, List.setIfInBounds_toArray, List.set_cons_zero, List.set_cons_succ]
        refine takeL (i := 19) (v := .bool true) rfl (by kernel_rfl) (by kernel_rfl) (by kernel_rfl) (fun _ _ _ h => h) (Or.inl ⟨by rfl, ?_⟩) hHeld ?_
        focus (intro wq hSw; clear hSw; go_simp; try with_reducible rfl)
        try simp only [Act.put, List.setIfInBounds_toArray, List.set_cons_zero, List.set_cons_succ]
        refine takeL (i := 20) (v := ?_) rfl (by kernel_rfl) (by kernel_rfl) (by kernel_rfl) (fun _ _ _ h => h) (Or.inl ⟨by rfl, ?_⟩) hHeld ?_
        rotate_left
        focus (intro wq hSw; clear hSw; go_simp; try with_reducible rfl)
        try simp only [Act.put, List.setIfInBounds_toArray, List.set_cons_zero, List.set_cons_succ]
        refine takeL (i := 21) (v := ?_) rfl (by kernel_rfl) (by kernel_rfl) (by kernel_rfl) (fun _ _ _ h => h) (Or.inl ⟨by rfl, ?_⟩) hHeld ?_
        rotate_left
        focus (intro wq hSw; clear hSw; go_simp; try with_reducible rfl)
        try simp only [Act.put, List.setIfInBounds_toArray, List.set_cons_zero, List.set_cons_succ]
        refine takeL (i := 22) (v := ?_) rfl (by kernel_rfl) (by kernel_rfl) (by kernel_rfl) (fun _ _ _ h => h) (Or.inl ⟨by rfl, ?_⟩) hHeld ?_
        rotate_left
        focus (intro wq hSw; clear hSw; go_simp; try with_reducible rfl)
        try simp only [Act.put, List.setIfInBounds_toArray, List.set_cons_zero, List.set_cons_succ]
        refine takeL (i := 23) (v := ?_) rfl (by kernel_rfl) (by kernel_rfl) (by kernel_rfl) (fun _ _ _ h => h) (Or.inl ⟨by rfl, ?_⟩) hHeld ?_
        rotate_left
        focus (intro wq hSw; clear hSw; go_simp; try with_reducible rfl)
        try simp only [Act.put, List.setIfInBounds_toArray, List.set_cons_zero, List.set_cons_succ]
        refine takeL (i := 26) (v := ?_) rfl (by kernel_rfl) (by kernel_rfl) (by kernel_rfl) (fun _ _ _ h => h) (Or.inl ⟨by rfl, ?_⟩) hHeld ?_
        rotate_left
        focus (intro wq hSw; have cq := (HX.out.1.turn (Hx2.out.2.1.trans hSw (fun _ h => .inl h)) (by simp; omega)).cell 0; simp only [List.getElem?_toArray, List.getElem?_cons_zero] at cq; clear hSw; go_simp; try with_reducible rfl)
        try simp only [Act.put, List.setIfInBounds_toArray, List.set_cons_zero, List.set_cons_succ]
        refine takeL (i := 27) (v := ?_) rfl (by kernel_rfl) (by kernel_rfl) (by kernel_rfl) (fun _ _ _ h => h) (Or.inl ⟨by rfl, ?_⟩) hHeld ?_
        rotate_left
        focus (intro wq hSw; clear hSw; go_simp; try with_reducible rfl)
        try simp only [Act.put, List.setIfInBounds_toArray, List.set_cons_zero, List.set_cons_succ]
        refine wpAnyH_ready (rs := [24]) (by kernel_rfl) (by simp) ?_
        refine consL rfl (fun K hK => ?_) AllReadyH.nil
        go_simp
        refine (dec_any _ _ _ _ _ _ _ _ l x2 (HX.out.2.2.2.2.1.far hw1l Hx2.out.2.1) (HX.out.2.2.2.2.2.1.turn Hx2.out.2.1 (HX.out.2.2.2.2.2.1.farB (by omega) HX.out.2.2.2.1))).mono ?_
        rintro e x3 ⟨s_x3, rfl, hge, hS, hbx⟩
        have hz : Turn [w.heap.size] x2 x3 := Turn.of_below [w.heap.size] hbx
        have hall : Turn [w.heap.size] W x3 := Hx2.out.2.1.trans hz (fun _ h => .inl h)
        have hr := Hx2.out.2.2.below hbx
        have hgt_x3 : w.heap.size < s_x3 := by have := Hx2.out.2.1.size; have := HX.out.2.2.2.1.lt; omega
        have Hx3 := Lib.hid (And.intro hS (And.intro hall hr))
        refine hK.out _ _ hz (fun hHeld => ?_)
        clear hK K hall hr hbx hS hge
        try simp only [Act.put, List.setIfInBounds_toArray, List.set_cons_zero, List.set_cons_succ]
        refine wpAnyH_turn (w1 := x3) hz (fun hHeld => ?_) (Turn.refl _ _)
        clear hz
        refine takeL (i := 25) (v := ?_) rfl (by kernel_rfl) (by kernel_rfl) (by kernel_rfl) (fun _ _ _ h => h) (Or.inl ⟨by rfl, ?_⟩) hHeld ?_
        rotate_left
        focus (intro wq hSw; have hRun := (Hx3.out.1.turn hSw (by simp; omega)).rd.str; clear hSw; go_simp; try with_reducible rfl)
        try simp only [Act.put, List.setIfInBounds_toArray, List.set_cons_zero, List.set_cons_succ]
        refine wpAnyH_ready (rs := [28]) (by kernel_rfl) (by simp) ?_
        refine consL rfl (fun K hK => ?_) AllReadyH.nil
        go_simp
        refine (rdec_any _ _ _ _ _ _ _ _ _ l x3 (HX.out.2.2.1.far HX.out.2.2.2.1 Hx3.out.2.1) (HX.out.2.2.2.2.2.1.turn Hx3.out.2.1 (HX.out.2.2.2.2.2.1.farB (by omega) HX.out.2.2.2.1))).mono ?_
        rintro e x4 ⟨s_x4, rfl, hS, hbx⟩
        have hz : Turn [w.heap.size] x3 x4 := Turn.of_below [w.heap.size] hbx
        have hall : Turn [w.heap.size] W x4 := Hx3.out.2.1.trans hz (fun _ h => .inl h)
        have hr := Hx3.out.2.2.below hbx
        have hgt_x4 : w.heap.size < s_x4 := by have := (hS.lt (g := s_x4) rfl).1; have := Hx3.out.2.1.size; have := HX.out.2.2.2.1.lt; omega
        have Hx4 := Lib.hid (And.intro hS (And.intro hall hr))
        refine hK.out _ _ hz (fun hHeld => ?_)
        clear hK K hall hr hbx hS
        try simp only [Act.put, List.setIfInBounds_toArray, List.set_cons_zero, List.set_cons_succ]
        refine wpAnyH_turn (w1 := x4) hz (fun hHeld => ?_) (Turn.refl _ _)
        clear hz
        refine takeL (i := 29) (v := ?_) rfl (by kernel_rfl) (by kernel_rfl) (by kernel_rfl) (fun _ _ _ h => h) (Or.inl ⟨by rfl, ?_⟩) hHeld ?_
        rotate_left
        focus (intro wq hSw; have hRun := (Hx4.out.1.rd.turn hSw (fun ad h => by cases h; simp; omega)).str; clear hSw; go_simp; try with_reducible rfl)
        try simp only [Act.put, List.setIfInBounds_toArray, List.set_cons_zero, List.set_cons_succ]
        refine takeL (i := 30) (v := .bool true) rfl (by kernel_rfl) (by kernel_rfl) (by kernel_rfl) (fun _ _ _ h => h) (Or.inl ⟨by rfl, ?_⟩) hHeld ?_
        focus (intro wq hSw; clear hSw; go_simp; try with_reducible rfl)
        try simp only [Act.put, List.setIfInBounds_toArray, List.set_cons_zero, List.set_cons_succ]
        refine takeL (i := 31) (v := ?_) rfl (by kernel_rfl) (by kernel_rfl) (by kernel_rfl) (fun _ _ _ h => h) (Or.inl ⟨by rfl, ?_⟩) hHeld ?_
        rotate_left
        focus (intro wq hSw; clear hSw; go_simp; try with_reducible rfl)
        try simp only [Act.put, List.setIfInBounds_toArray, List.set_cons_zero, List.set_cons_succ]
        have f0 := Hx4.out.2.2.frozen 0
        have c0 := Hx4.out.2.2.cell 0
        simp only [List.getElem?_toArray, List.getElem?_cons_zero] at c0
        refine wpAnyH_ready (rs := [32]) (by kernel_rfl) (by simp) ?_
        refine consL rfl (fun K hK => ?_) AllReadyH.nil
        go_simp
        refine hK.out _ _ (hHeld.setCell (.inl (by simp)) _) (fun hHeld => ?_)
        clear hK K hHeld
        try simp only [Act.put, List.setIfInBounds_toArray, List.set_cons_zero, List.set_cons_succ]
        refine wpAnyH_done (by kernel_rfl) ?_ _
        refine NoPanic.normal ?_
        clear f0 c0
        go_wp2_with fail
        have hT : Turn [w.heap.size] W (x4.setCell ⟨w.heap.size, 0, none⟩ (.bool true)) := Hx4.out.2.1.setCell (p := ⟨w.heap.size, 0, none⟩) (.inl (by simp)) _
        exact Hfin.out _ _ rfl rfl (Hx4.out.2.2.set_ 0 _) (Old.turned HX.out.2.2.2.2.2.2.1 hT (by simp)) ((hT.block _ (by have := Hz6.out; omega) (by have := Hz6.out; simp; omega)).trans HX.out.2.2.2.2.2.2.2)
      · have hm1 : ((m2 : Int) != 16) = true := by simp; omega
        have hm3 : ¬ ((m2 : Int) = 16) := by omega
        go_wp2_with fail
        refine region_turn [w.heap.size] (by kernel_rfl) (fun wd hOld hHeld hSz => ?_)
        have hall : Turn [w.heap.size] W wd := hHeld
        have hr := HX.out.2.2.2.1.below hOld
        have Hwd := Lib.hid (And.intro trivial (And.intro hall hr))
        refine wpAnyH_turn (w1 := wd) hHeld (fun hHeld => ?_) (Turn.refl _ _)
        clear hOld hSz hall hr
        refine takeL (i := 0) (v := ?_) rfl (by kernel_rfl) (by kernel_rfl) (by kernel_rfl) (fun _ _ _ h => h) (Or.inl ⟨by rfl, ?_⟩) hHeld ?_
        rotate_left
        focus (intro wq hSw; clear hSw; go_simp; try with_reducible rfl)
        try simp only [Act.put, List.setIfInBounds_toArray, List.set_cons_zero, List.set_cons_succ]
        refine takeL (i := 1) (v := ?_) rfl (by kernel_rfl) (by kernel_rfl) (by kernel_rfl) (fun _ _ _ h => h) (Or.inl ⟨by rfl, ?_⟩) hHeld ?_
        rotate_left
        focus (intro wq hSw; clear hSw; go_simp; try with_reducible rfl)
        try simp only [Act.put, List.setIfInBounds_toArray, List.set_cons_zero, List.set_cons_succ]
        refine takeL (i := 2) (v := ?_) rfl (by kernel_rfl) (by kernel_rfl) (by kernel_rfl) (fun _ _ _ h => h) (Or.inl ⟨by rfl, ?_⟩) hHeld ?_
        rotate_left
        focus (intro wq hSw; have cq := (HX.out.2.1.turn (Hwd.out.2.1.trans hSw (fun _ h => .inl h)) (by simp; omega)).cell 0; simp only [List.getElem?_toArray, List.getElem?_cons_zero] at cq; clear hSw; go_simp; try with_reducible rfl)
        try simp only [Act.put, List.setIfInBounds_toArray, List.set_cons_zero, List.set_cons_succ]
        refine takeL (i := 3) (v := ?_) rfl (by kernel_rfl) (by kernel_rfl) (by kernel_rfl) (fun _ _ _ h => h) (Or.inl ⟨by rfl, ?_⟩) hHeld ?_
        rotate_left
        focus (intro wq hSw; have cq := (HX.out.1.turn (Hwd.out.2.1.trans hSw (fun _ h => .inl h)) (by simp; omega)).cell 0; simp only [List.getElem?_toArray, List.getElem?_cons_zero] at cq; clear hSw; go_simp; try with_reducible rfl)
        try simp only [Act.put, List.setIfInBounds_toArray, List.set_cons_zero, List.set_cons_succ]
        refine takeL (i := 4) (v := ?_) rfl (by kernel_rfl) (by kernel_rfl) (by kernel_rfl) (fun _ _ _ h => h) (Or.inl ⟨by rfl, ?_⟩) hHeld ?_
        rotate_left
        focus (intro wq hSw; clear hSw; go_simp; try with_reducible rfl)
        try simp only [Act.put, List.setIfInBounds_toArray, List.set_cons_zero, List.set_cons_succ]
        refine takeL (i := 5) (v := ?_) rfl (by kernel_rfl) (by kernel_rfl) (by kernel_rfl) (fun _ _ _ h => h) (Or.inl ⟨by rfl, ?_⟩) hHeld ?_
        rotate_left
        focus (intro wq hSw; clear hSw; go_simp; try with_reducible rfl)
        try simp only [Act.put, List.setIfInBounds_toArray, List.set_cons_zero, List.set_cons_succ]
        refine takeL (i := 6) (v := ?_) rfl (by kernel_rfl) (by kernel_rfl) (by kernel_rfl) (fun _ _ _ h => h) (Or.inl ⟨by rfl, ?_⟩) hHeld ?_
        rotate_left
        focus (intro wq hSw; have cq := (HX.out.2.2.1.far HX.out.2.2.2.1 (Hwd.out.2.1.trans hSw (fun _ h => .inl h))).1.cell 0; simp only [List.getElem?_toArray, List.getElem?_cons_zero] at cq; clear hSw; go_simp; try with_reducible rfl)
        try simp only [Act.put, List.setIfInBounds_toArray, List.set_cons_zero, List.set_cons_succ]
        refine takeL (i := 7) (v := ?_) rfl (by kernel_rfl) (by kernel_rfl) (by kernel_rfl) (fun _ _ _ h => h) (Or.inl ⟨by rfl, ?_⟩) hHeld ?_
        rotate_left
        focus (intro wq hSw; clear hSw; go_simp; try with_reducible rfl)
        try simp only [Act.put, List.setIfInBounds_toArray, List.set_cons_zero, List.set_cons_succ]
        refine takeL (i := 8) (v := .bool true) rfl (by kernel_rfl) (by kernel_rfl) (by kernel_rfl) (fun _ _ _ h => h) (Or.inl ⟨by rfl, ?_⟩) hHeld ?_
        focus (intro wq hSw; clear hSw; go_simp; try with_reducible rfl)
        try simp only [Act.put, List.setIfInBounds_toArray, List.set_cons_zero, List.set_cons_succ]
        refine takeL (i := 9) (v := ?_) rfl (by kernel_rfl) (by kernel_rfl) (by kernel_rfl) (fun _ _ _ h => h) (Or.inl ⟨by rfl, ?_⟩) hHeld ?_
        rotate_left
        focus (intro wq hSw; clear hSw; go_simp; try with_reducible rfl)
        try simp only [Act.put, List.setIfInBounds_toArray, List.set_cons_zero, List.set_cons_succ]
        refine takeL (i := 10) (v := ?_) rfl (by kernel_rfl) (by kernel_rfl) (by kernel_rfl) (fun _ _ _ h => h) (Or.inl ⟨by rfl, ?_⟩) hHeld ?_
        rotate_left
        focus (intro wq hSw; clear hSw; go_simp; try with_reducible rfl)
        try simp only [Act.put, List.setIfInBounds_toArray, List.set_cons_zero, List.set_cons_succ]
        refine takeL (i := 11) (v := ?_) rfl (by kernel_rfl) (by kernel_rfl) (by kernel_rfl) (fun _ _ _ h => h) (Or.inl ⟨by rfl, ?_⟩) hHeld ?_
        rotate_left
        focus (intro wq hSw; clear hSw; go_simp; try with_reducible rfl)
        try simp only [Act.put, List.setIfInBounds_toArray, List.set_cons_zero, List.set_cons_succ]
        refine takeL (i := 12) (v := ?_) rfl (by kernel_rfl) (by kernel_rfl) (by kernel_rfl) (fun _ _ _ h => h) (Or.inl ⟨by rfl, ?_⟩) hHeld ?_
        rotate_left
        focus (intro wq hSw; clear hSw; go_simp; try with_reducible rfl)
        try simp only [Act.put, List.setIfInBounds_toArray, List.set_cons_zero, List.set_cons_succ]
        refine wpAnyH_ready (rs := [13]) (by kernel_rfl) (by simp) ?_
        refine consL rfl (fun K hK => ?_) AllReadyH.nil
        go_simp
        refine (enc_len c C m2 cb wd hm).mono ?_
        rintro e x1 ⟨rfl, hbx⟩
        have hz : Turn [w.heap.size] wd x1 := Turn.of_below [w.heap.size] hbx
        have hall : Turn [w.heap.size] W x1 := Hwd.out.2.1.trans hz (fun _ h => .inl h)
        have hr := Hwd.out.2.2.below hbx
        have Hx1 := Lib.hid (And.intro trivial (And.intro hall hr))
        refine hK.out _ _ hz (fun hHeld => ?_)
        clear hK K hall hr hbx 
        try simp only [Act.put, List.setIfInBounds_toArray, List.set_cons_zero, List.set_cons_succ]
        refine wpAnyH_turn (w1 := x1) hz (fun hHeld => ?_) (Turn.refl _ _)
        clear hz
        refine takeL (i := 14) (v := ?_) rfl (by kernel_rfl) (by kernel_rfl) (by kernel_rfl) (fun _ _ _ h => h) (Or.inl ⟨by rfl, ?_⟩) hHeld ?_
        rotate_left
        focus (intro wq hSw; clear hSw; go_simp; try with_reducible rfl)
        try simp only [Act.put, List.setIfInBounds_toArray, List.set_cons_zero, List.set_cons_succ]
        refine takeL (i := 15) (v := .bool true) rfl (by kernel_rfl) (by kernel_rfl) (by kernel_rfl) (fun _ _ _ h => h) (Or.inl ⟨by rfl, ?_⟩) hHeld ?_
        focus (intro wq hSw; clear hSw; go_simp; try with_reducible rfl)
        try simp only [Act.put, List.setIfInBounds_toArray, List.set_cons_zero, List.set_cons_succ]
        refine takeL (i := 16) (v := ?_) rfl (by kernel_rfl) (by kernel_rfl) (by kernel_rfl) (fun _ _ _ h => h) (Or.inl ⟨by rfl, ?_⟩) hHeld ?_
        rotate_left
        focus (intro wq hSw; clear hSw; go_simp; try with_reducible rfl)
        try simp only [Act.put, List.setIfInBounds_toArray, List.set_cons_zero, List.set_cons_succ]
        refine takeL (i := 17) (v := ?_) rfl (by kernel_rfl) (by kernel_rfl) (by kernel_rfl) (fun _ _ _ h => h) (Or.inl ⟨by rfl, ?_⟩) hHeld ?_
        rotate_left
        focus (intro wq hSw; clear hSw; go_simp; try with_reducible rfl)
        try simp only [Act.put, List.setIfInBounds_toArray, List.set_cons_zero, List.set_cons_succ]
        refine takeL (i := 18) (v := ?_) rfl (by kernel_rfl) (by kernel_rfl) (by kernel_rfl) (fun _ _ _ h => h) (Or.inl ⟨by rfl, ?_⟩) hHeld ?_
        rotate_left
        focus (intro wq hSw; clear hSw; go_simp; try with_reducible rfl)
        try simp only [Act.put, List.setIfInBounds_toArray, List.set_cons_zero, List.set_cons_succ]
        refine takeL (i := 19) (v := ?_) rfl (by kernel_rfl) (by kernel_rfl) (by kernel_rfl) (fun _ _ _ h => h) (Or.inl ⟨by rfl, ?_⟩) hHeld ?_
        rotate_left
        focus (intro wq hSw; clear hSw; go_simp; try with_reducible rfl)
        try simp only [Act.put, List.setIfInBounds_toArray, List.set_cons_zero, List.set_cons_succ]
        refine wpAnyH_ready (rs := [20]) (by kernel_rfl) (by simp) ?_
        refine consL rfl (fun K hK => ?_) AllReadyH.nil
        go_simp
        refine (dec_len c C m2 cb x1 hm).mono ?_
        rintro e x2 ⟨rfl, hbx⟩
        rw [hbx]
        clear hbx
        refine hK.out _ _ (Turn.refl _ _) (fun hHeld => ?_)
        clear hK K
        try simp only [Act.put, List.setIfInBounds_toArray, List.set_cons_zero, List.set_cons_succ]
        refine takeL (i := 21) (v := ?_) rfl (by kernel_rfl) (by kernel_rfl) (by kernel_rfl) (fun _ _ _ h => h) (Or.inl ⟨by rfl, ?_⟩) hHeld ?_
        rotate_left
        focus (intro wq hSw; clear hSw; go_simp; try with_reducible rfl)
        try simp only [Act.put, List.setIfInBounds_toArray, List.set_cons_zero, List.set_cons_succ]
        refine takeL (i := 22) (v := .bool true) rfl (by kernel_rfl) (by kernel_rfl) (by kernel_rfl) (fun _ _ _ h => h) (Or.inl ⟨by rfl, ?_⟩) hHeld ?_
        focus (intro wq hSw; clear hSw; go_simp; try with_reducible rfl)
        try simp only [Act.put, List.setIfInBounds_toArray, List.set_cons_zero, List.set_cons_succ]
        refine takeL (i := 23) (v := ?_) rfl (by kernel_rfl) (by kernel_rfl) (by kernel_rfl) (fun _ _ _ h => h) (Or.inl ⟨by rfl, ?_⟩) hHeld ?_
        rotate_left
        focus (intro wq hSw; clear hSw; go_simp; try with_reducible rfl)
        try simp only [Act.put, List.setIfInBounds_toArray, List.set_cons_zero, List.set_cons_succ]
        have f0 := Hx1.out.2.2.frozen 0
        have c0 := Hx1.out.2.2.cell 0
        simp only [List.getElem?_toArray, List.getElem?_cons_zero] at c0
        refine wpAnyH_ready (rs := [24]) (by kernel_rfl) (by simp) ?_
        refine consL rfl (fun K hK => ?_) AllReadyH.nil
        go_simp
        refine hK.out _ _ (hHeld.setCell (.inl (by simp)) _) (fun hHeld => ?_)
        clear hK K hHeld
        try simp only [Act.put, List.setIfInBounds_toArray, List.set_cons_zero, List.set_cons_succ]
        refine wpAnyH_done (by kernel_rfl) ?_ _
        refine NoPanic.normal ?_
        clear f0 c0
        go_wp2_with fail
        have hT : Turn [w.heap.size] W (x1.setCell ⟨w.heap.size, 0, none⟩ (.bool true)) := Hx1.out.2.1.setCell (p := ⟨w.heap.size, 0, none⟩) (.inl (by simp)) _
        exact Hfin.out _ _ rfl rfl (Hx1.out.2.2.set_ 0 _) (Old.turned HX.out.2.2.2.2.2.2.1 hT (by simp)) ((hT.block _ (by have := Hz6.out; omega) (by have := Hz6.out; simp; omega)).trans HX.out.2.2.2.2.2.2.2)
    case hstop => rintro c k W hlt hkN h; exact h.elim
  · refine calls_of_marks Try.func3 rfl ?_
    simp only [Try.ntmps3, List.size_toArray, List.length_cons, List.length_nil, Nat.reduceAdd, Nat.reduceSub, Array.replicate_succ, Array.replicate_zero, List.push_toArray, List.append_toArray, List.nil_append, List.cons_append]
    go_wp2_with fail
    try rw [hw0]
    refine (begun_any w0).mono ?_
    rintro e w1 ⟨rfl, hb1⟩
    have h01 := H0.out.1.trans (hb1.mono H0.out.1.size)
    have H1 := Lib.hid (And.intro h01 hb1)
    clear h01 hb1 hw0
    go_wp2_with fail
    refine (HS1.out w1 H1.out.1).mono ?_
    rintro e w9 ⟨rfl, h9⟩
    rw [← h9]
    clear h9 w9
    go_wp2_with fail
    refine (HS2.out w1 H1.out.1).mono ?_
    rintro e w9 ⟨rfl, h9⟩
    rw [← h9]
    clear h9 w9
    clear HS1 HS2
    go_wp2_with fail
    refine (new_no A m1 ca w1 (by omega)).mono ?_
    rintro e w9 ⟨rfl, h9⟩
    rw [h9]
    clear h9 w9
    go_wp2_with fail
    refine (rnew_no A m1 ca w1 (by omega)).mono ?_
    rintro e w9 ⟨rfl, h9⟩
    rw [h9]
    clear h9 w9
    go_wp2_with fail
    obtain ⟨w2, hw2⟩ : ∃ w2, w1.alloc (.cells #[.pointer none] 27) = w2 := ⟨_, rfl⟩
    rw [hw2]
    have hb2 : Below w.heap.size w w2 := by rw [← hw2]; exact H1.out.1.alloc H1.out.1.size _
    have hr2 : Blk w2 w.heap.size 4 #[.bool false] := (H0.out.2.1.below H1.out.2).below (by rw [← hw2]; exact (Below.refl _ _).alloc (Nat.le_refl _) _)
    have H2 := Lib.hid (And.intro hb2 hr2)
    clear hb2 hr2 hw2
    refine (enc_nil C m2 cb w2).mono ?_
    rintro e w3 ⟨rfl, hb3⟩
    have H3 := Lib.hid (H2.out.1.trans (hb3.mono H2.out.1.size))
    have hr3 := H2.out.2.below hb3
    have H3r := Lib.hid hr3
    clear hb3 hr3 H2
    go_wp2_with fail
    refine (dec_nil C m2 cb w3).mono ?_
    rintro e w9 ⟨rfl, h9⟩
    rw [h9]
    clear h9 w9
    have f3 := H3r.out.frozen 0
    have c3 := H3r.out.cell 0
    simp only [List.getElem?_toArray, List.getElem?_cons_zero] at c3
    go_wp2_with fail
    have hT := (Turn.refl [w.heap.size] w3).setCell (p := ⟨w.heap.size, 0, none⟩) (.inl (by simp)) (.bool true)
    exact ret_bare rfl (res_cell rfl rfl (H3r.out.set_ 0 _)) ⟨rfl, below_turn H3.out hT (by simp) H3.out.size⟩
end Go.Proofs.Ytgkkafkdgmdihaa
