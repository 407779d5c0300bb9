/-
  DER: the law DerRead.
-/
import Derived.Test.YtgkhhinjdojbhaaDer23
namespace Go.Proofs.Ytgkhhinjdojbhaa
open Go.RowKit

/-- What is read, with noughts where nothing is. -/
def rdV : Option (Nd × Nat) → Nd × Nat × Bool
  | none => (.mk 0 [] [], 0, false)
  | some (n, u) => (n, u, true)
theorem NdU.zero (w : World) : NdU w zNF (.mk 0 [] []) :=
  NdR.mk zNF [] [] [] (Rd.nil _) (fun a ha => by cases ha) ⟨rfl, .inl rfl⟩ (Nat.zero_le _) (fun a ha => by cases ha) (fun h => by cases h) rfl (by simp)
theorem ReadPost.uni {w w' : World} {e : Ending} {o : Option (Nd × Nat)} (h : ReadPost w w' e o) : ∃ f : NF, e = .returned (.tuple #[f.val, .int .i64 ((rdV o).2.1 : Int), .bool (rdV o).2.2]) ∧ NdU w' f (rdV o).1 := by
  cases o with
  | none => exact ⟨zNF, h, NdU.zero _⟩
  | some x =>
    obtain ⟨n, u⟩ := x
    obtain ⟨f, he, hN⟩ := h
    exact ⟨f, he, NdU.of hN⟩
/-- What is read is written as it was. -/
theorem rdO_back {b : List UInt8} {n : Nd} {u : Nat} (h : rdO b = some (n, u)) : n.wok = true ∧ n.out = b.take u ∧ u ≤ b.length ∧ n.may = true ∧ n.enc.length = u := by
  unfold rdO at h
  split at h
  · cases h
  · rename_i n' r hd
    split at h
    · rename_i hc
      injection h with h
      injection h with e1 e2
      subst e1
      obtain ⟨hb, hok⟩ := dec_some _ _ _ _ hd
      have hm : n'.may = true := by unfold Nd.may; rw [hok, decide_eq_true hc.1]; rfl
      have hw : n'.wok = true := by unfold Nd.wok; rw [hm, decide_eq_true hc.2]; rfl
      refine ⟨hw, ?_, ?_, hm, e2⟩
      · unfold Nd.out; rw [if_pos hw, ← e2, hb, List.take_left' rfl]
      · rw [hb, List.length_append, e2]; omega
    · cases h
set_option maxRecDepth 100000 in
set_option maxHeartbeats 8000000 in
theorem derRead_any (A : Option Addr) (m c : Nat) (l : List UInt8) (w : World) (h : Rd w A m c l) :
    Calls Try.prog 4 #[.slice A m c] w fun e w' => e = .returned (.bool true) ∧ Below w.heap.size w w' := by
  have hbg := begun_any w
  have H0 := Lib.hid h
  clear h
  go_enter Try.func4, Try.ntmps4
  go_wp2_with fail
  refine hbg.mono ?_
  rintro e w1 ⟨rfl, hb1⟩
  clear hbg
  have hsh := short_any A m c 300 l w1 (H0.out.below hb1) (by omega)
  rw [show ((300 : Nat) : Int) = 300 from rfl] at hsh
  have hR := Rd.short (n := 300) (H0.out.below hb1)
  obtain ⟨M, hM⟩ : ∃ M, min m 300 = M := ⟨_, rfl⟩
  obtain ⟨bs, hbs⟩ : ∃ bs, l.take 300 = bs := ⟨_, rfl⟩
  rw [hM] at hsh hR
  rw [hbs] at hR
  have hMb : M ≤ 300 := by omega
  have H1 := Lib.hid (And.intro hR hb1)
  clear hb1 hR hbs hM
  go_wp2_with fail
  refine hsh.mono ?_
  rintro e w1' ⟨rfl, rfl⟩
  clear hsh
  have hr := read_any A M c bs w1 H1.out.1 (by omega)
  have hr2 := fun w' hb => refRead_any A M c bs w' (H1.out.1.below hb) (by omega)
  obtain ⟨o, ho⟩ : ∃ o, rdO bs = o := ⟨_, rfl⟩
  rw [ho] at hr hr2
  have HO := Lib.hid ho
  have HR2 := Lib.hid hr2
  clear ho hr2
  go_wp2_with fail
  refine hr.mono ?_
  rintro e w2 ⟨hp, hb2⟩
  obtain ⟨⟨t1, B1, n1, k1, B2, n2, k2⟩, rfl, hN⟩ := hp.uni
  obtain ⟨n, u, ok, hv⟩ : ∃ n u ok, rdV o = (n, u, ok) := ⟨_, _, _, rfl⟩
  rw [hv] at hN ⊢
  have HV := Lib.hid hv
  clear hp hr hv
  obtain ⟨N1, hN1s⟩ : ∃ N1, w2.heap.size = N1 := ⟨_, rfl⟩
  have bZ : Blk (w2.alloc (.cells #[.int .i64 0, .slice none 0 0, .slice none 0 0] 25)) N1 25 #[.int .i64 0, .slice none 0 0, .slice none 0 0] := by rw [← hN1s]; exact Blk.new _ _ _
  have H2 := Lib.hid (And.intro hN (And.intro bZ hb2))
  clear hN bZ hb2
  simp only [NF.val]
  go_upto_region 4 with (refine wpList_store_arr rfl 25 (.tmp 4) (.tmp 18) rfl N1 25 _ [.int .i64 t1, .slice B1 n1 k1, .slice B2 n2 k2] H2.out.2.1 rfl rfl (by kernel_rfl) rfl rfl ?_; intro w3 hB3 hT3; have H3b := Lib.hid (And.intro hB3 hT3); clear hB3 hT3)
  try simp only [Act.put]
  have hb3 := boxed hN1s H3b.out.2
  have H3 := Lib.hid (And.intro (H2.out.1.below hb3) (H2.out.2.2.trans (hb3.mono H2.out.2.2.size)))
  clear hb3
  have hr2 := HR2.out w3 H3.out.2
  go_wp2_with fail
  refine hr2.mono ?_
  rintro e w4 ⟨hp, hb4⟩
  obtain ⟨⟨t1', B1', n1', k1', B2', n2', k2'⟩, rfl, hN'⟩ := hp.uni
  rw [HV.out] at hN' ⊢
  clear hp hr2
  obtain ⟨N2, hN2s⟩ : ∃ N2, w4.heap.size = N2 := ⟨_, rfl⟩
  have bZ : Blk (w4.alloc (.cells #[.int .i64 0, .slice none 0 0, .slice none 0 0] 25)) N2 25 #[.int .i64 0, .slice none 0 0, .slice none 0 0] := by rw [← hN2s]; exact Blk.new _ _ _
  have H4 := Lib.hid (And.intro hN' (And.intro bZ (And.intro (H3.out.1.below hb4) (And.intro (H3b.out.1.below hb4) (H3.out.2.trans (hb4.mono H3.out.2.size))))))
  clear hN' bZ hb4
  simp only [NF.val]
  go_upto_region 5 with (refine wpList_store_arr rfl 25 (.tmp 7) (.tmp 24) rfl N2 25 _ [.int .i64 t1', .slice B1' n1' k1', .slice B2' n2' k2'] H4.out.2.1 rfl rfl (by kernel_rfl) rfl rfl ?_; intro w5 hB5 hT5; have H5b := Lib.hid (And.intro hB5 hT5); clear hB5 hT5)
  try simp only [Act.put]
  have hb5 := boxed hN2s H5b.out.2
  have H5 := Lib.hid (And.intro (H4.out.2.2.1.below hb5) (And.intro (H4.out.1.below hb5) (And.intro (H4.out.2.2.2.1.below hb5) (And.intro H5b.out.1 (H4.out.2.2.2.2.trans (hb5.mono H4.out.2.2.2.2.size))))))
  clear hb5
  have y0 := H5.out.2.2.1.cell 0
  have y1 := H5.out.2.2.1.cell 1
  have y2 := H5.out.2.2.1.cell 2
  have z0 := H5.out.2.2.2.1.cell 0
  have z1 := H5.out.2.2.2.1.cell 1
  have z2 := H5.out.2.2.2.1.cell 2
  simp only [List.getElem?_toArray, List.getElem?_cons_succ, List.getElem?_cons_zero] at y0 y1 y2 z0 z1 z2
  have he := eq_any _ _ _ _ n ⟨t1, B1, n1, k1, B2, n2, k2⟩ ⟨t1', B1', n1', k1', B2', n2', k2'⟩ w5 H5.out.1 H5.out.2.1 (fun b hb => hb) (fun b hb => hb)
  simp only [NF.val] at he
  have hbu : ok = true → u ≤ M ∧ n.wok = true ∧ n.out = bs.take u := fun hok => by
    subst hok
    have h9 := HV.out
    cases o with
    | none => cases h9
    | some x =>
      obtain ⟨n', u'⟩ := x
      injection h9 with e1 e2
      injection e2 with e2 _
      subst e1
      subst e2
      obtain ⟨q1, q2, q3, _⟩ := rdO_back HO.out
      exact ⟨by have := H1.out.1.1; omega, q1, q2⟩
  have HBU := Lib.hid hbu
  clear hbu
  cases ok with
  | false =>
    go_wp2_with fail
    refine he.mono ?_
    rintro e w6 ⟨rfl, hb6⟩
    have H6 := Lib.hid (H1.out.2.trans ((H5.out.2.2.2.2.trans (hb6.mono H5.out.2.2.2.2.size)).mono H1.out.2.size))
    clear hb6 he y0 y1 y2 z0 z1 z2
    go_wp2_with fail
    go_ret
    exact ⟨rfl, H6.out⟩
  | true =>
    obtain ⟨hu, hwok, hout⟩ := HBU.out rfl
    go_wp2_with fail
    refine he.mono ?_
    rintro e w6 ⟨rfl, hb6⟩
    have H6 := Lib.hid (And.intro (H5.out.1.below hb6) (And.intro (H5.out.2.2.1.below hb6) (And.intro (H5.out.2.2.2.2.trans (hb6.mono H5.out.2.2.2.2.size)) hout)))
    clear hb6 he y0 y1 y2 z0 z1 z2
    have y0 := H6.out.2.1.cell 0
    have y1 := H6.out.2.1.cell 1
    have y2 := H6.out.2.1.cell 2
    simp only [List.getElem?_toArray, List.getElem?_cons_succ, List.getElem?_cons_zero] at y0 y1 y2
    have hw := writeTop_any _ n ⟨t1, B1, n1, k1, B2, n2, k2⟩ w6 H6.out.1 (fun b hb => hb)
    rw [hwok, hout] at hw
    simp only [NF.val] at hw
    have HW := Lib.hid hw
    clear hw hwok hout
    go_wp2_with fail
    refine HW.out.mono ?_
    rintro e w7 ⟨A7, n7, c7, rfl, ho7, hb7⟩
    have H7 := Lib.hid (And.intro ho7.rd (And.intro (H1.out.1.below (H6.out.2.2.1.trans (hb7.mono H6.out.2.2.1.size))) (H1.out.2.trans ((H6.out.2.2.1.trans (hb7.mono H6.out.2.2.1.size)).mono H1.out.2.size))))
    clear ho7 hb7 y0 y1 y2
    go_wp2_with fail
    refine region_old (by kernel_rfl) (fun wd hHeld hSz => ?_)
    have HSz := Lib.hid hSz
    clear hSz
    refine takeL (i := 0) (v := ?_) rfl (by kernel_rfl) (by kernel_rfl) (by kernel_rfl) (fun _ _ _ h => h) (Or.inl ⟨by rfl, ?_⟩) hHeld ?_
    rotate_left
    focus (intro wq hSw; clear hSw; go_simp; try with_reducible rfl)
    try simp only [Act.put, List.setIfInBounds_toArray, List.set_cons_zero, List.set_cons_succ]
    refine takeL (i := 1) (v := ?_) rfl (by kernel_rfl) (by kernel_rfl) (by kernel_rfl) (fun _ _ _ h => h) (Or.inl ⟨by rfl, ?_⟩) hHeld ?_
    rotate_left
    focus (intro wq hSw; clear hSw; go_simp; try with_reducible rfl)
    try simp only [Act.put, List.setIfInBounds_toArray, List.set_cons_zero, List.set_cons_succ]
    refine takeL (i := 2) (v := ?_) rfl (by kernel_rfl) (by kernel_rfl) (by kernel_rfl) (fun _ _ _ h => h) (Or.inl ⟨by rfl, ?_⟩) hHeld ?_
    rotate_left
    focus (intro wq hSw; clear hSw; go_simp; try with_reducible rfl)
    try simp only [Act.put, List.setIfInBounds_toArray, List.set_cons_zero, List.set_cons_succ]
    refine takeL (i := 3) (v := ?_) rfl (by kernel_rfl) (by kernel_rfl) (by kernel_rfl) (fun _ _ _ h => h) (Or.inl ⟨by rfl, ?_⟩) hHeld ?_
    rotate_left
    focus (intro wq hSw; clear hSw; go_simp; try with_reducible rfl)
    try simp only [Act.put, List.setIfInBounds_toArray, List.set_cons_zero, List.set_cons_succ]
    refine takeL (i := 4) (v := ?_) rfl (by kernel_rfl) (by kernel_rfl) (by kernel_rfl) (fun _ _ _ h => h) (Or.inl ⟨by rfl, ?_⟩) hHeld ?_
    rotate_left
    focus (intro wq hSw; clear hSw; go_simp; try with_reducible rfl)
    try simp only [Act.put, List.setIfInBounds_toArray, List.set_cons_zero, List.set_cons_succ]
    refine takeL (i := 5) (v := ?_) rfl (by kernel_rfl) (by kernel_rfl) (by kernel_rfl) (fun _ _ _ h => h) (Or.inl ⟨by rfl, ?_⟩) hHeld ?_
    rotate_left
    focus (intro wq hSw; clear hSw; go_simp; try with_reducible rfl)
    try simp only [Act.put, List.setIfInBounds_toArray, List.set_cons_zero, List.set_cons_succ]
    refine takeL (i := 6) (v := ?_) rfl (by kernel_rfl) (by kernel_rfl) (by kernel_rfl) (fun _ _ _ h => h) (Or.inl ⟨by rfl, ?_⟩) hHeld ?_
    rotate_left
    focus (intro wq hSw; have hRun := H7.out.1.str_below hSw; clear hSw; go_simp; try with_reducible rfl)
    try simp only [Act.put, List.setIfInBounds_toArray, List.set_cons_zero, List.set_cons_succ]
    refine takeL (i := 7) (v := ?_) rfl (by kernel_rfl) (by kernel_rfl) (by kernel_rfl) (fun _ _ _ h => h) (Or.inl ⟨by rfl, ?_⟩) hHeld ?_
    rotate_left
    focus (intro wq hSw; clear hSw; go_simp; try with_reducible rfl)
    try simp only [Act.put, List.setIfInBounds_toArray, List.set_cons_zero, List.set_cons_succ]
    refine takeL (i := 8) (v := ?_) rfl (by kernel_rfl) (by kernel_rfl) (by kernel_rfl) (fun _ _ _ h => h) (Or.inl ⟨by rfl, ?_⟩) hHeld ?_
    rotate_left
    focus (intro wq hSw; clear hSw; go_simp; try with_reducible rfl)
    try simp only [Act.put, List.setIfInBounds_toArray, List.set_cons_zero, List.set_cons_succ]
    refine takeL (i := 9) (v := ?_) rfl (by kernel_rfl) (by kernel_rfl) (by kernel_rfl) (fun _ _ _ h => h) (Or.inl ⟨by rfl, ?_⟩) hHeld ?_
    rotate_left
    focus (intro wq hSw; have hRun := slice_to A M c u H7.out.2.1.spot (by have := H7.out.2.1.2.1; omega) wq; clear hSw; go_simp; try with_reducible rfl)
    try simp only [Act.put, List.setIfInBounds_toArray, List.set_cons_zero, List.set_cons_succ]
    refine takeL (i := 10) (v := ?_) rfl (by kernel_rfl) (by kernel_rfl) (by kernel_rfl) (fun _ _ _ h => h) (Or.inl ⟨by rfl, ?_⟩) hHeld ?_
    rotate_left
    focus (intro wq hSw; have hRun := (H7.out.2.1.front hu).str_below hSw; clear hSw; go_simp; try with_reducible rfl)
    try simp only [Act.put, List.setIfInBounds_toArray, List.set_cons_zero, List.set_cons_succ]
    refine takeL (i := 11) (v := ?_) rfl (by kernel_rfl) (by kernel_rfl) (by kernel_rfl) (fun _ _ _ h => h) (Or.inl ⟨by rfl, ?_⟩) hHeld ?_
    rotate_left
    focus (intro wq hSw; clear hSw; go_simp; try with_reducible rfl)
    try simp only [Act.put, List.setIfInBounds_toArray, List.set_cons_zero, List.set_cons_succ]
    refine takeL (i := 12) (v := ?_) rfl (by kernel_rfl) (by kernel_rfl) (by kernel_rfl) (fun _ _ _ h => h) (Or.inl ⟨by rfl, ?_⟩) hHeld ?_
    rotate_left
    focus (intro wq hSw; clear hSw; go_simp; try with_reducible rfl)
    try simp only [Act.put, List.setIfInBounds_toArray, List.set_cons_zero, List.set_cons_succ]
    refine takeL (i := 13) (v := ?_) rfl (by kernel_rfl) (by kernel_rfl) (by kernel_rfl) (fun _ _ _ h => h) (Or.inl ⟨by rfl, ?_⟩) hHeld ?_
    rotate_left
    focus (intro wq hSw; clear hSw; go_simp; try with_reducible rfl)
    try simp only [Act.put, List.setIfInBounds_toArray, List.set_cons_zero, List.set_cons_succ]
    refine wpAnyH_done (by kernel_rfl) ?_ _
    refine NoPanic.normal ?_
    have H9 := Lib.hid (H7.out.2.2.trans (Below.mono hHeld H7.out.2.2.size))
    clear hHeld
    try simp only [Exit.then]
    go_wp2_with fail
    go_ret
    exact ⟨rfl, H9.out⟩
end Go.Proofs.Ytgkhhinjdojbhaa
