/-
  DER: the law DerWrite.
-/
import Derived.Test.YtgkhhinjdojbhaaDer27
namespace Go.Proofs.Ytgkhhinjdojbhaa
open Go.RowKit

/-- What was written is read. -/
theorem rdO_out {n : Nd} (h : n.wok = true) (more : List UInt8) : rdO (n.out ++ more) = some (n, n.enc.length) := by
  unfold Nd.out
  rw [if_pos h]
  unfold Nd.wok at h
  rw [Bool.and_eq_true, decide_eq_true_eq] at h
  obtain ⟨h1, h2⟩ := h
  have hm := Nd.may_ok h1
  unfold Nd.may at h1
  rw [Bool.and_eq_true, decide_eq_true_eq] at h1
  rw [rdO_some (dec_enc 16 n more hm (by omega)), if_pos ⟨h1.2, h2⟩]
set_option maxRecDepth 100000 in
set_option maxHeartbeats 8000000 in
theorem derWrite_any (f : NF) (n : Nd) (A : Option Addr) (m c : Nat) (l : List UInt8) (w : World) (hN : NdI (fun b => b < w.heap.size) w f n) (h : Rd w A m c l) :
    Calls Try.prog 3 #[f.val, .slice A m c] w fun e w' => e = .returned (.bool true) ∧ Below w.heap.size w w' := by
  obtain ⟨t1, A1, n1, k1, A2, n2, k2⟩ := f
  obtain ⟨X, hX⟩ : ∃ X, w.heap.size = X := ⟨_, rfl⟩
  obtain ⟨w0, hw0⟩ : ∃ w0, w.alloc (.cells #[.int .i64 t1, .slice A1 n1 k1, .slice A2 n2 k2] 25) = w0 := ⟨_, rfl⟩
  have hb0 : Below w.heap.size w w0 := by rw [← hw0]; exact (Below.refl _ _).alloc (Nat.le_refl _) _
  have bX : Blk w0 X 25 #[.int .i64 t1, .slice A1 n1 k1, .slice A2 n2 k2] := by rw [← hw0, ← hX]; exact Blk.new _ _ _
  have hs0 : w0.heap.size = X + 1 := by rw [← hw0, ← hX]; simp
  have hlt : ∀ ad : Addr, A = some ad → ad.block < X := fun ad ha => by rw [← hX]; exact h.lt ad ha
  have HLT := Lib.hid hlt
  clear hlt
  have hbg := begun_any w0
  have H0 := Lib.hid (And.intro bX (And.intro hb0 (And.intro hs0 (And.intro hX (And.intro (hN.bel hb0 (fun b hb => hb)) (h.below hb0))))))
  have HX := Lib.hid hX
  clear bX hb0 hs0 hN h
  simp only [NF.val]
  go_enter Try.func3, Try.ntmps3
  go_upto_region 1 with fail
  try rw [hX]
  try rw [hw0]
  clear hw0 hX
  go_wp2_with fail
  refine hbg.mono ?_
  rintro e w1 ⟨rfl, hb1⟩
  clear hbg
  have hsz1 : w0.heap.size ≤ w1.heap.size := hb1.size
  have bX1 := H0.out.1.below hb1
  have hN1 : NdI (fun b => b < w1.heap.size) w1 ⟨t1, A1, n1, k1, A2, n2, k2⟩ n := (H0.out.2.2.2.2.1.keep hb1.size (fun b hb => hb1.block b (by have := H0.out.2.1.size; omega))).mono (fun b hb => by have := H0.out.2.1.size; omega)
  have hct := cut_any ⟨t1, A1, n1, k1, A2, n2, k2⟩ n w1 hN1
  simp only [NF.val] at hct
  obtain ⟨n', hn'⟩ : ∃ n', n.cut = n' := ⟨_, rfl⟩
  have henc : n'.may = true → n'.enc.length ≤ 215040 := by rw [← hn']; exact Nd.cut_enc
  rw [hn'] at hct
  have x0 := bX1.cell 0
  have x1 := bX1.cell 1
  have x2 := bX1.cell 2
  simp only [List.getElem?_toArray, List.getElem?_cons_succ, List.getElem?_cons_zero] at x0 x1 x2

  have H1 := Lib.hid (And.intro bX1 (And.intro (H0.out.2.2.2.2.2.below hb1) (And.intro (H0.out.2.1.trans (hb1.mono H0.out.2.1.size)) henc)))
  clear bX1 hb1 hN1 hn' hsz1 henc
  go_upto_region 3 with (first | (refine wpList_store_arr rfl 25 (.tmp 2) (.tmp 16) rfl X 25 _ [.int .i64 t4, .slice B1 m1 c1, .slice B2 m2 c2] HR.out rfl rfl (by kernel_rfl) rfl rfl ?_; intro w3 hB3 hT3; have H3 := Lib.hid (And.intro hB3 hT3); clear hB3 hT3) | (with_reducible refine hct.mono ?_; rintro e w2 ⟨⟨t4, B1, m1, c1, B2, m2, c2⟩, rfl, hN2, hb2⟩; have HN2 := Lib.hid (And.intro hN2 hb2); have HR := Lib.hid (H1.out.1.below hb2); simp only [NF.val]; clear hN2 hb2 hct x0 x1 x2))
  try simp only [Act.put]
  have hXw : X < w1.heap.size := H1.out.1.lt
  have hXX := HX.out
  have hN3 : NdR (fun b => w1.heap.size ≤ b ∧ b < w2.heap.size) NB2 w3 ⟨t4, B1, m1, c1, B2, m2, c2⟩ n' := HN2.out.1.turn H3.out.2 (fun b hb => ⟨hb.2, by have := hb.1; simp; omega⟩)
  have hb3 : Below w.heap.size w w3 := below_turn (H1.out.2.2.1.trans (HN2.out.2.mono (by omega))) H3.out.2 (fun t ht => by simp at ht; omega) (by have := HN2.out.2.size; omega)
  have hl3 : Rd w3 A m c l := by
    have h9 := H1.out.2.1.below HN2.out.2
    refine h9.turn H3.out.2 (fun ad had hm => ?_)
    simp at hm
    have := HLT.out ad had
    omega
  have hN4 : NdR (fun b => b < w3.heap.size) NB2 w3 ⟨t4, B1, m1, c1, B2, m2, c2⟩ n' := hN3.mono (fun b hb => by have := H3.out.2.size; omega) (fun _ h => h)
  have y0 := H3.out.1.cell 0
  have y1 := H3.out.1.cell 1
  have y2 := H3.out.1.cell 2
  simp only [List.getElem?_toArray, List.getElem?_cons_succ, List.getElem?_cons_zero] at y0 y1 y2

  have hw := writeTop2_any _ n' ⟨t4, B1, m1, c1, B2, m2, c2⟩ w3 hN4 (fun b hb => hb)
  simp only [NF.val] at hw
  have H4 := Lib.hid (And.intro hN4 (And.intro hb3 (And.intro hl3 H1.out.2.2.2)))
  obtain ⟨S3, hS3⟩ : ∃ S3, w3.heap.size = S3 := ⟨_, rfl⟩
  have HS3 := Lib.hid hS3
  clear hN4 hN3 hb3 hl3 hS3 hXw hXX
  obtain ⟨ok, hok⟩ : ∃ ok, n'.wok = ok := ⟨_, rfl⟩
  obtain ⟨out, hout⟩ : ∃ out, n'.out = out := ⟨_, rfl⟩
  obtain ⟨mb, hmb⟩ : ∃ mb, n'.may = mb := ⟨_, rfl⟩
  rw [hok, hout] at hw
  have HOK := Lib.hid (And.intro hok (And.intro hout hmb))
  clear hok hout hmb
  go_wp2_with fail
  refine hw.mono ?_
  rintro e w5 ⟨A5, n5, c5, rfl, ho5, hb5⟩
  clear hw y0 y1 y2
  have bX5 := H3.out.1.below hb5
  have y0 := bX5.cell 0
  have y1 := bX5.cell 1
  have y2 := bX5.cell 2
  simp only [List.getElem?_toArray, List.getElem?_cons_succ, List.getElem?_cons_zero] at y0 y1 y2

  have hr := refWrite_any _ _ n' ⟨t4, B1, m1, c1, B2, m2, c2⟩ w5 (H4.out.1.bel hb5 (fun b hb => hb)) (fun b hb => Nat.lt_of_lt_of_le hb hb5.size) (fun hm => by have := H4.out.2.2.2 hm; omega)
  simp only [NF.val] at hr
  rw [HOK.out.1, HOK.out.2.1] at hr
  have H5 := Lib.hid (And.intro ho5 (And.intro hb5 bX5))
  clear ho5 hb5 bX5
  go_wp2_with fail
  refine hr.mono ?_
  rintro e w6 ⟨A6, n6, c6, rfl, ho6, hb6⟩
  clear hr y0 y1 y2
  have bX6 := H5.out.2.2.below hb6
  have h36 : Below w3.heap.size w3 w6 := H5.out.2.1.trans (hb6.mono H5.out.2.1.size)
  have hl6 := H4.out.2.2.1.below h36
  have y0 := bX6.cell 0
  have y1 := bX6.cell 1
  have y2 := bX6.cell 2
  simp only [List.getElem?_toArray, List.getElem?_cons_succ, List.getElem?_cons_zero] at y0 y1 y2

  have H6 := Lib.hid (And.intro (H5.out.1.below hb6) (And.intro ho6 (And.intro (And.intro y0 (And.intro y1 y2)) (And.intro h36 (And.intro bX6 (And.intro hl6 (H4.out.2.1.trans (h36.mono H4.out.2.1.size))))))))
  have hok1 : (binOp .neq 4 (.bool ok) (.bool ok)).run Try.prog w = .ok (.bool false) w := by cases ok <;> rfl
  clear ho6 hb6 bX6 h36 hl6 y0 y1 y2 hok1
  cases ok with
  | false =>
    go_wp2_with fail
    refine region_old (by kernel_rfl) (fun wd hHeld hSz => ?_)
    have HSz := Lib.hid hSz
    clear hSz
    refine takeL (i := 0) (v := ?_) rfl (by kernel_rfl) (by kernel_rfl) (by kernel_rfl) (fun _ _ _ h => h) (Or.inl ⟨by rfl, ?_⟩) hHeld ?_
    rotate_left
    focus (intro wq hSw; clear hSw; go_simp; try with_reducible rfl)
    try simp only [Act.put, List.setIfInBounds_toArray, List.set_cons_zero, List.set_cons_succ]
    refine takeL (i := 1) (v := ?_) rfl (by kernel_rfl) (by kernel_rfl) (by kernel_rfl) (fun _ _ _ h => h) (Or.inl ⟨by rfl, ?_⟩) hHeld ?_
    rotate_left
    focus (intro wq hSw; clear hSw; go_simp; try with_reducible rfl)
    try simp only [Act.put, List.setIfInBounds_toArray, List.set_cons_zero, List.set_cons_succ]
    refine takeL (i := 2) (v := ?_) rfl (by kernel_rfl) (by kernel_rfl) (by kernel_rfl) (fun _ _ _ h => h) (Or.inl ⟨by rfl, ?_⟩) hHeld ?_
    rotate_left
    focus (intro wq hSw; clear hSw; go_simp; try with_reducible rfl)
    try simp only [Act.put, List.setIfInBounds_toArray, List.set_cons_zero, List.set_cons_succ]
    refine takeL (i := 3) (v := ?_) rfl (by kernel_rfl) (by kernel_rfl) (by kernel_rfl) (fun _ _ _ h => h) (Or.inl ⟨by rfl, ?_⟩) hHeld ?_
    rotate_left
    focus (intro wq hSw; clear hSw; go_simp; try with_reducible rfl)
    try simp only [Act.put, List.setIfInBounds_toArray, List.set_cons_zero, List.set_cons_succ]
    refine takeL (i := 4) (v := ?_) rfl (by kernel_rfl) (by kernel_rfl) (by kernel_rfl) (fun _ _ _ h => h) (Or.inl ⟨by rfl, ?_⟩) hHeld ?_
    rotate_left
    focus (intro wq hSw; clear hSw; go_simp; try with_reducible rfl)
    try simp only [Act.put, List.setIfInBounds_toArray, List.set_cons_zero, List.set_cons_succ]
    refine takeL (i := 5) (v := ?_) rfl (by kernel_rfl) (by kernel_rfl) (by kernel_rfl) (fun _ _ _ h => h) (Or.inl ⟨by rfl, ?_⟩) hHeld ?_
    rotate_left
    focus (intro wq hSw; have hRun := H6.out.1.rd.str_below hSw; clear hSw; go_simp; try with_reducible rfl)
    try simp only [Act.put, List.setIfInBounds_toArray, List.set_cons_zero, List.set_cons_succ]
    refine takeL (i := 6) (v := ?_) rfl (by kernel_rfl) (by kernel_rfl) (by kernel_rfl) (fun _ _ _ h => h) (Or.inl ⟨by rfl, ?_⟩) hHeld ?_
    rotate_left
    focus (intro wq hSw; clear hSw; go_simp; try with_reducible rfl)
    try simp only [Act.put, List.setIfInBounds_toArray, List.set_cons_zero, List.set_cons_succ]
    refine takeL (i := 7) (v := ?_) rfl (by kernel_rfl) (by kernel_rfl) (by kernel_rfl) (fun _ _ _ h => h) (Or.inl ⟨by rfl, ?_⟩) hHeld ?_
    rotate_left
    focus (intro wq hSw; have hRun := H6.out.2.1.rd.str_below hSw; clear hSw; go_simp; try with_reducible rfl)
    try simp only [Act.put, List.setIfInBounds_toArray, List.set_cons_zero, List.set_cons_succ]
    refine takeL (i := 8) (v := ?_) rfl (by kernel_rfl) (by kernel_rfl) (by kernel_rfl) (fun _ _ _ h => h) (Or.inl ⟨by rfl, ?_⟩) hHeld ?_
    rotate_left
    focus (intro wq hSw; clear hSw; go_simp; try with_reducible rfl)
    try simp only [Act.put, List.setIfInBounds_toArray, List.set_cons_zero, List.set_cons_succ]
    refine takeL (i := 9) (v := ?_) rfl (by kernel_rfl) (by kernel_rfl) (by kernel_rfl) (fun _ _ _ h => h) (Or.inl ⟨by rfl, ?_⟩) hHeld ?_
    rotate_left
    focus (intro wq hSw; clear hSw; go_simp; try with_reducible rfl)
    try simp only [Act.put, List.setIfInBounds_toArray, List.set_cons_zero, List.set_cons_succ]
    refine takeL (i := 10) (v := ?_) rfl (by kernel_rfl) (by kernel_rfl) (by kernel_rfl) (fun _ _ _ h => h) (Or.inl ⟨by rfl, ?_⟩) hHeld ?_
    rotate_left
    focus (intro wq hSw; clear hSw; go_simp; try with_reducible rfl)
    try simp only [Act.put, List.setIfInBounds_toArray, List.set_cons_zero, List.set_cons_succ]
    refine takeL (i := 11) (v := ?_) rfl (by kernel_rfl) (by kernel_rfl) (by kernel_rfl) (fun _ _ _ h => h) (Or.inl ⟨by rfl, ?_⟩) hHeld ?_
    rotate_left
    focus (intro wq hSw; obtain ⟨u0, u1, u2⟩ := H6.out.2.2.1; have e0 := cell_old hSw u0; have e1 := cell_old hSw u1; have e2 := cell_old hSw u2; clear hSw; go_simp; try with_reducible rfl)
    try simp only [Act.put, List.setIfInBounds_toArray, List.set_cons_zero, List.set_cons_succ]
    refine takeL (i := 13) (v := ?_) rfl (by kernel_rfl) (by kernel_rfl) (by kernel_rfl) (fun _ _ _ h => h) (Or.inl ⟨by rfl, ?_⟩) hHeld ?_
    rotate_left
    focus (intro wq hSw; obtain ⟨u0, u1, u2⟩ := H6.out.2.2.1; have e0 := cell_old hSw u0; have e1 := cell_old hSw u1; have e2 := cell_old hSw u2; clear hSw; go_simp; try with_reducible rfl)
    try simp only [Act.put, List.setIfInBounds_toArray, List.set_cons_zero, List.set_cons_succ]
    refine wpAnyH_ready (rs := [12]) (by kernel_rfl) (by simp) ?_
    refine consL rfl (fun K hK => ?_) AllReadyH.nil
    go_simp
    have hm := mayTop_any _ _ n' ⟨t4, B1, m1, c1, B2, m2, c2⟩ wd (H4.out.1.keep (Nat.le_trans H6.out.2.2.2.1.size hHeld.size) (fun b hb => (hHeld.block b (Nat.lt_of_lt_of_le hb H6.out.2.2.2.1.size)).trans (H6.out.2.2.2.1.block b hb))) (fun b hb => Nat.lt_of_lt_of_le hb (Nat.le_trans H6.out.2.2.2.1.size hHeld.size))
    simp only [NF.val] at hm
    rw [HOK.out.2.2] at hm
    refine hm.mono ?_
    rintro e w7 ⟨rfl, hb'⟩
    clear hm
    have hb' := Old.trans hHeld hb'
    refine hK.out _ _ hb' (fun hHeld => ?_)
    clear hK K
    try simp only [Act.put, List.setIfInBounds_toArray, List.set_cons_zero, List.set_cons_succ]
    refine wpAnyH_ready (rs := [14]) (by kernel_rfl) (by simp) ?_
    refine consL rfl (fun K hK => ?_) AllReadyH.nil
    go_simp
    have hm := refMay_any _ _ n' ⟨t4, B1, m1, c1, B2, m2, c2⟩ w7 (H4.out.1.keep (Nat.le_trans H6.out.2.2.2.1.size hHeld.size) (fun b hb => (hHeld.block b (Nat.lt_of_lt_of_le hb H6.out.2.2.2.1.size)).trans (H6.out.2.2.2.1.block b hb))) (fun b hb => Nat.lt_of_lt_of_le hb (Nat.le_trans H6.out.2.2.2.1.size hHeld.size))
    simp only [NF.val] at hm
    rw [HOK.out.2.2] at hm
    refine hm.mono ?_
    rintro e w8 ⟨rfl, hb'⟩
    clear hm
    have hb' := Old.trans hHeld hb'
    refine hK.out _ _ hb' (fun hHeld => ?_)
    clear hK K
    try simp only [Act.put, List.setIfInBounds_toArray, List.set_cons_zero, List.set_cons_succ]
    refine takeL (i := 15) (v := ?_) rfl (by kernel_rfl) (by kernel_rfl) (by kernel_rfl) (fun _ _ _ h => h) (Or.inl ⟨by rfl, ?_⟩) hHeld ?_
    rotate_left
    focus (intro wq hSw; clear hSw; go_simp; try with_reducible rfl)
    try simp only [Act.put, List.setIfInBounds_toArray, List.set_cons_zero, List.set_cons_succ]
    refine takeL (i := 16) (v := ?_) rfl (by kernel_rfl) (by kernel_rfl) (by kernel_rfl) (fun _ _ _ h => h) (Or.inl ⟨by rfl, ?_⟩) hHeld ?_
    rotate_left
    focus (intro wq hSw; clear hSw; go_simp; try with_reducible rfl)
    try simp only [Act.put, List.setIfInBounds_toArray, List.set_cons_zero, List.set_cons_succ]
    refine wpAnyH_done (by kernel_rfl) ?_ _
    refine NoPanic.normal ?_
    try simp only [Exit.then]
    go_wp2_with fail
    go_ret
    exact ⟨rfl, H6.out.2.2.2.2.2.2.trans (hHeld.mono H6.out.2.2.2.2.2.2.size)⟩
  | true =>
    go_wp2_with fail
    refine region_old (by kernel_rfl) (fun wd hHeld hSz => ?_)
    have HSz := Lib.hid hSz
    clear hSz
    refine takeL (i := 0) (v := ?_) rfl (by kernel_rfl) (by kernel_rfl) (by kernel_rfl) (fun _ _ _ h => h) (Or.inl ⟨by rfl, ?_⟩) hHeld ?_
    rotate_left
    focus (intro wq hSw; clear hSw; go_simp; try with_reducible rfl)
    try simp only [Act.put, List.setIfInBounds_toArray, List.set_cons_zero, List.set_cons_succ]
    refine takeL (i := 1) (v := ?_) rfl (by kernel_rfl) (by kernel_rfl) (by kernel_rfl) (fun _ _ _ h => h) (Or.inl ⟨by rfl, ?_⟩) hHeld ?_
    rotate_left
    focus (intro wq hSw; clear hSw; go_simp; try with_reducible rfl)
    try simp only [Act.put, List.setIfInBounds_toArray, List.set_cons_zero, List.set_cons_succ]
    refine takeL (i := 2) (v := ?_) rfl (by kernel_rfl) (by kernel_rfl) (by kernel_rfl) (fun _ _ _ h => h) (Or.inl ⟨by rfl, ?_⟩) hHeld ?_
    rotate_left
    focus (intro wq hSw; clear hSw; go_simp; try with_reducible rfl)
    try simp only [Act.put, List.setIfInBounds_toArray, List.set_cons_zero, List.set_cons_succ]
    refine takeL (i := 3) (v := ?_) rfl (by kernel_rfl) (by kernel_rfl) (by kernel_rfl) (fun _ _ _ h => h) (Or.inl ⟨by rfl, ?_⟩) hHeld ?_
    rotate_left
    focus (intro wq hSw; clear hSw; go_simp; try with_reducible rfl)
    try simp only [Act.put, List.setIfInBounds_toArray, List.set_cons_zero, List.set_cons_succ]
    refine takeL (i := 4) (v := ?_) rfl (by kernel_rfl) (by kernel_rfl) (by kernel_rfl) (fun _ _ _ h => h) (Or.inl ⟨by rfl, ?_⟩) hHeld ?_
    rotate_left
    focus (intro wq hSw; clear hSw; go_simp; try with_reducible rfl)
    try simp only [Act.put, List.setIfInBounds_toArray, List.set_cons_zero, List.set_cons_succ]
    refine takeL (i := 5) (v := ?_) rfl (by kernel_rfl) (by kernel_rfl) (by kernel_rfl) (fun _ _ _ h => h) (Or.inl ⟨by rfl, ?_⟩) hHeld ?_
    rotate_left
    focus (intro wq hSw; have hRun := H6.out.1.rd.str_below hSw; clear hSw; go_simp; try with_reducible rfl)
    try simp only [Act.put, List.setIfInBounds_toArray, List.set_cons_zero, List.set_cons_succ]
    refine takeL (i := 6) (v := ?_) rfl (by kernel_rfl) (by kernel_rfl) (by kernel_rfl) (fun _ _ _ h => h) (Or.inl ⟨by rfl, ?_⟩) hHeld ?_
    rotate_left
    focus (intro wq hSw; clear hSw; go_simp; try with_reducible rfl)
    try simp only [Act.put, List.setIfInBounds_toArray, List.set_cons_zero, List.set_cons_succ]
    refine takeL (i := 7) (v := ?_) rfl (by kernel_rfl) (by kernel_rfl) (by kernel_rfl) (fun _ _ _ h => h) (Or.inl ⟨by rfl, ?_⟩) hHeld ?_
    rotate_left
    focus (intro wq hSw; have hRun := H6.out.2.1.rd.str_below hSw; clear hSw; go_simp; try with_reducible rfl)
    try simp only [Act.put, List.setIfInBounds_toArray, List.set_cons_zero, List.set_cons_succ]
    refine takeL (i := 8) (v := ?_) rfl (by kernel_rfl) (by kernel_rfl) (by kernel_rfl) (fun _ _ _ h => h) (Or.inl ⟨by rfl, ?_⟩) hHeld ?_
    rotate_left
    focus (intro wq hSw; clear hSw; go_simp; try with_reducible rfl)
    try simp only [Act.put, List.setIfInBounds_toArray, List.set_cons_zero, List.set_cons_succ]
    refine takeL (i := 9) (v := ?_) rfl (by kernel_rfl) (by kernel_rfl) (by kernel_rfl) (fun _ _ _ h => h) (Or.inl ⟨by rfl, ?_⟩) hHeld ?_
    rotate_left
    focus (intro wq hSw; clear hSw; go_simp; try with_reducible rfl)
    try simp only [Act.put, List.setIfInBounds_toArray, List.set_cons_zero, List.set_cons_succ]
    refine takeL (i := 10) (v := ?_) rfl (by kernel_rfl) (by kernel_rfl) (by kernel_rfl) (fun _ _ _ h => h) (Or.inl ⟨by rfl, ?_⟩) hHeld ?_
    rotate_left
    focus (intro wq hSw; clear hSw; go_simp; try with_reducible rfl)
    try simp only [Act.put, List.setIfInBounds_toArray, List.set_cons_zero, List.set_cons_succ]
    refine takeL (i := 11) (v := ?_) rfl (by kernel_rfl) (by kernel_rfl) (by kernel_rfl) (fun _ _ _ h => h) (Or.inl ⟨by rfl, ?_⟩) hHeld ?_
    rotate_left
    focus (intro wq hSw; obtain ⟨u0, u1, u2⟩ := H6.out.2.2.1; have e0 := cell_old hSw u0; have e1 := cell_old hSw u1; have e2 := cell_old hSw u2; clear hSw; go_simp; try with_reducible rfl)
    try simp only [Act.put, List.setIfInBounds_toArray, List.set_cons_zero, List.set_cons_succ]
    refine takeL (i := 13) (v := ?_) rfl (by kernel_rfl) (by kernel_rfl) (by kernel_rfl) (fun _ _ _ h => h) (Or.inl ⟨by rfl, ?_⟩) hHeld ?_
    rotate_left
    focus (intro wq hSw; obtain ⟨u0, u1, u2⟩ := H6.out.2.2.1; have e0 := cell_old hSw u0; have e1 := cell_old hSw u1; have e2 := cell_old hSw u2; clear hSw; go_simp; try with_reducible rfl)
    try simp only [Act.put, List.setIfInBounds_toArray, List.set_cons_zero, List.set_cons_succ]
    refine wpAnyH_ready (rs := [12]) (by kernel_rfl) (by simp) ?_
    refine consL rfl (fun K hK => ?_) AllReadyH.nil
    go_simp
    have hm := mayTop_any _ _ n' ⟨t4, B1, m1, c1, B2, m2, c2⟩ wd (H4.out.1.keep (Nat.le_trans H6.out.2.2.2.1.size hHeld.size) (fun b hb => (hHeld.block b (Nat.lt_of_lt_of_le hb H6.out.2.2.2.1.size)).trans (H6.out.2.2.2.1.block b hb))) (fun b hb => Nat.lt_of_lt_of_le hb (Nat.le_trans H6.out.2.2.2.1.size hHeld.size))
    simp only [NF.val] at hm
    rw [HOK.out.2.2] at hm
    refine hm.mono ?_
    rintro e w7 ⟨rfl, hb'⟩
    clear hm
    have hb' := Old.trans hHeld hb'
    refine hK.out _ _ hb' (fun hHeld => ?_)
    clear hK K
    try simp only [Act.put, List.setIfInBounds_toArray, List.set_cons_zero, List.set_cons_succ]
    refine wpAnyH_ready (rs := [14]) (by kernel_rfl) (by simp) ?_
    refine consL rfl (fun K hK => ?_) AllReadyH.nil
    go_simp
    have hm := refMay_any _ _ n' ⟨t4, B1, m1, c1, B2, m2, c2⟩ w7 (H4.out.1.keep (Nat.le_trans H6.out.2.2.2.1.size hHeld.size) (fun b hb => (hHeld.block b (Nat.lt_of_lt_of_le hb H6.out.2.2.2.1.size)).trans (H6.out.2.2.2.1.block b hb))) (fun b hb => Nat.lt_of_lt_of_le hb (Nat.le_trans H6.out.2.2.2.1.size hHeld.size))
    simp only [NF.val] at hm
    rw [HOK.out.2.2] at hm
    refine hm.mono ?_
    rintro e w8 ⟨rfl, hb'⟩
    clear hm
    have hb' := Old.trans hHeld hb'
    refine hK.out _ _ hb' (fun hHeld => ?_)
    clear hK K
    try simp only [Act.put, List.setIfInBounds_toArray, List.set_cons_zero, List.set_cons_succ]
    refine takeL (i := 15) (v := ?_) rfl (by kernel_rfl) (by kernel_rfl) (by kernel_rfl) (fun _ _ _ h => h) (Or.inl ⟨by rfl, ?_⟩) hHeld ?_
    rotate_left
    focus (intro wq hSw; clear hSw; go_simp; try with_reducible rfl)
    try simp only [Act.put, List.setIfInBounds_toArray, List.set_cons_zero, List.set_cons_succ]
    refine takeL (i := 16) (v := ?_) rfl (by kernel_rfl) (by kernel_rfl) (by kernel_rfl) (fun _ _ _ h => h) (Or.inl ⟨by rfl, ?_⟩) hHeld ?_
    rotate_left
    focus (intro wq hSw; clear hSw; go_simp; try with_reducible rfl)
    try simp only [Act.put, List.setIfInBounds_toArray, List.set_cons_zero, List.set_cons_succ]
    refine wpAnyH_done (by kernel_rfl) ?_ _
    refine NoPanic.normal ?_
    try simp only [Exit.then]
    have hlen := (HOK.out.2.1)
    have henc := H4.out.2.2.2
    have hob : out.length ≤ 65536 ∧ out.length = n'.enc.length := by
      have h1 := HOK.out.1
      have h2 := HOK.out.2.1
      unfold Nd.out at h2
      rw [if_pos h1] at h2
      unfold Nd.wok at h1
      rw [Bool.and_eq_true, decide_eq_true_eq] at h1
      rw [← h2]
      exact ⟨h1.2, rfl⟩
    clear hlen henc
    have H8 := Lib.hid (And.intro ((H6.out.1.below hHeld).rd) (And.intro (H6.out.2.2.2.2.2.1.below hHeld) (And.intro (H6.out.2.2.2.1.trans (hHeld.mono H6.out.2.2.2.1.size)) (And.intro (H6.out.2.2.2.2.2.2.trans (hHeld.mono H6.out.2.2.2.2.2.2.size)) (And.intro (H6.out.2.2.2.2.1.below hHeld) hob)))))
    clear hHeld hob
    go_wp2_with (at_builtin; go_loud (refine wp_app2 (.const (.slice none 0 0)) (.tmp 47) w8.heap.size (.slice none 0 0) [] (Own.nil _ _) (Nat.le_refl _) A5 n5 c5 out H8.out.1 (by have := H8.out.2.2.2.2.2.1; simp; omega) rfl rfl rfl rfl ?_; intro A9 n9 c9 w9 hi9 hG; have H9 := Lib.hid hG; clear hG))
    have hsh := short_any A m c 20 l w9 (H8.out.2.1.below H9.out.below) (by omega)
    rw [show ((20 : Nat) : Int) = 20 from rfl] at hsh
    refine hsh.mono ?_
    rintro e w9' ⟨rfl, rfl⟩
    clear hsh
    obtain ⟨M, hM⟩ : ∃ M, min m 20 = M := ⟨_, rfl⟩
    obtain ⟨bs, hbs⟩ : ∃ bs, l.take 20 = bs := ⟨_, rfl⟩
    have hR := Rd.short (n := 20) (H8.out.2.1.below H9.out.below)
    rw [hM, hbs] at hR
    rw [hM]
    have hbl : bs.length ≤ 20 := by rw [← hbs, List.length_take]; omega
    have HB := Lib.hid (And.intro hR hbl)
    clear hM hbs hR hbl
    go_wp2_with (at_builtin; go_loud (refine wp_app2 (.tmp 48) (.tmp 50) w8.heap.size (.slice A9 n9 c9) ([] ++ out) H9.out.own H9.out.below.size A M c bs HB.out.1 (by have := HB.out.2; have := H8.out.2.2.2.2.2.1; simp; omega) rfl rfl rfl rfl ?_; intro A10 n10 c10 w10 hi10 hG; have H10 := Lib.hid hG; clear hG))
    have hrd : rdO ([] ++ out ++ bs) = some (n', n5) := by
      have h1 := rdO_out HOK.out.1 bs
      rw [HOK.out.2.1] at h1
      have h2 := H8.out.1.1
      have h3 := H8.out.2.2.2.2.2.2
      rw [show n'.enc.length = n5 by omega] at h1
      exact h1
    have hr := read_any A10 n10 c10 ([] ++ out ++ bs) w10 H10.out.own.rd (by have := H10.out.own.len; have := HB.out.2; have := H8.out.2.2.2.2.2.1; simp at *; omega)
    rw [hrd] at hr
    refine hr.mono ?_
    rintro e w11 ⟨hp, hb11⟩
    obtain ⟨⟨t6, D1, r1, s1, D2, r2, s2⟩, rfl, hN11⟩ := hp
    clear hr hrd
    obtain ⟨N1, hN1s⟩ : ∃ N1, w11.heap.size = N1 := ⟨_, rfl⟩
    have bZ : Blk (w11.alloc (.cells #[.int .i64 0, .slice none 0 0, .slice none 0 0] 25)) N1 25 #[.int .i64 0, .slice none 0 0, .slice none 0 0] := by rw [← hN1s]; exact Blk.new _ _ _
    have h811 : Below w8.heap.size w8 w11 := (H9.out.below.trans (H10.out.below.mono (Nat.le_refl _))).trans (hb11.mono (Nat.le_trans H9.out.below.size H10.out.below.size))
    have H11 := Lib.hid (And.intro (NdU.of hN11) (And.intro bZ h811))
    clear hN11 bZ h811 hb11
    simp only [NF.val]
    go_upto_region 11 with (refine wpList_store_arr rfl 25 (.tmp 11) (.tmp 55) rfl N1 25 _ [.int .i64 t6, .slice D1 r1 s1, .slice D2 r2 s2] H11.out.2.1 rfl rfl (by kernel_rfl) rfl rfl ?_; intro w12 hB12 hT12; have H12b := Lib.hid (And.intro hB12 hT12); clear hB12 hT12)
    try simp only [Act.put]
    have hb12 := boxed hN1s H12b.out.2
    have h812 : Below w8.heap.size w8 w12 := H11.out.2.2.trans (hb12.mono H11.out.2.2.size)
    have h312 : Below w3.heap.size w3 w12 := H8.out.2.2.1.trans (h812.mono H8.out.2.2.1.size)
    have bX12 := H8.out.2.2.2.2.1.below h812
    have y0 := bX12.cell 0
    have y1 := bX12.cell 1
    have y2 := bX12.cell 2
    simp only [List.getElem?_toArray, List.getElem?_cons_succ, List.getElem?_cons_zero] at y0 y1 y2
    have z0 := H12b.out.1.cell 0
    have z1 := H12b.out.1.cell 1
    have z2 := H12b.out.1.cell 2
    simp only [List.getElem?_toArray, List.getElem?_cons_succ, List.getElem?_cons_zero] at z0 z1 z2
    have he := eq_any _ _ _ _ n' ⟨t6, D1, r1, s1, D2, r2, s2⟩ ⟨t4, B1, m1, c1, B2, m2, c2⟩ w12 (H11.out.1.below hb12) (H4.out.1.bel h312 (fun b hb => hb)) (fun b hb => hb) (fun b hb => Nat.lt_of_lt_of_le hb h312.size)
    simp only [NF.val] at he
    have H12 := Lib.hid (H8.out.2.2.2.1.trans (h812.mono H8.out.2.2.2.1.size))
    clear hb12 h812 h312 bX12 hN1s
    go_wp2_with fail
    refine he.mono ?_
    rintro e w13 ⟨rfl, hb13⟩
    have H13 := Lib.hid (H12.out.trans (hb13.mono H12.out.size))
    clear hb13 he
    go_wp2_with fail
    go_ret
    exact ⟨rfl, H13.out⟩
end Go.Proofs.Ytgkhhinjdojbhaa
