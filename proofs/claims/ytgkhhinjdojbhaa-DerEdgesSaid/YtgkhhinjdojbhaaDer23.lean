/-
  DER: what the laws tell of one node.
-/
import Derived.Test.YtgkhhinjdojbhaaDer22
namespace Go.Proofs.Ytgkhhinjdojbhaa
open Go.RowKit

theorem notNilW (caps : Array Value) (w : World) : (binOp .neq 66 (.func (.func 50) #[] caps) .nilFunc).run Try.prog w = .ok (.bool true) w := by kernel_rfl
theorem walk_any (f : NF) (w : World) :
    Calls Try.prog 35 #[f.val] w fun e w' => (∃ a : Addr, e = .returned (.func (.func 50) #[] #[.pointer (some a)])) ∧ Below w.heap.size w w' := by
  obtain ⟨tag, A1, m1, c1, A2, m2, c2⟩ := f
  simp only [NF.val]
  go_enter Try.func35, Try.ntmps35
  go_wp2_with fail
  go_ret
  exact ⟨⟨_, rfl⟩, (Below.refl _ _).alloc (Nat.le_refl _) _⟩
def nB : Nd := .mk 2 [0, 128] []
def oB : Nd := .mk 6 [42, 134, 72] []
theorem bl128 : bl 128 = 8 := by decide +kernel
theorem int128 : intNd (valL [128]) = nB := by
  have e : valL [128] = 128 := rfl
  unfold intNd nB
  rw [e, bl128]
  rfl
theorem nB_ok : nB.ok 16 = true := by
  unfold nB
  rw [Nd.ok, if_neg (by decide)]
  rfl
theorem nB_size : nB.size = 1 := by unfold nB; rw [Nd.size, sizeAll]
theorem nB_may : nB.may = true := by unfold Nd.may; rw [nB_ok, nB_size]; rfl
theorem nB_enc : nB.enc = [2, 2, 0, 128] := by
  unfold nB
  rw [Nd.enc, if_neg (by decide)]
  rfl
theorem nB_wok : nB.wok = true := by unfold Nd.wok; rw [nB_may, nB_enc]; rfl
theorem nB_out : nB.out = [2, 2, 0, 128] := by unfold Nd.out; rw [if_pos nB_wok, nB_enc]
theorem nB_read : rdO [2, 2, 0, 128] = some (nB, 4) := by
  have h := dec_enc 16 nB [] nB_ok (by rw [nB_enc]; decide)
  rw [List.append_nil, nB_enc] at h
  rw [rdO_some h, nB_size, nB_enc]; rfl
theorem oB_ok : oB.ok 16 = true := by
  unfold oB
  rw [Nd.ok, if_neg (by decide)]
  rfl
theorem oB_may : oB.may = true := by unfold Nd.may; rw [oB_ok, show oB.size = 1 by unfold oB; rw [Nd.size, sizeAll]]; rfl
theorem dig42 : dig 42 = [42] := by unfold dig; rw [show 42 / 128 = 0 from rfl, digHi_zero]; rfl
theorem dig840 : dig 840 = [134, 72] := by
  unfold dig
  rw [show 840 / 128 = 6 from rfl, digHi, dif_neg (by decide), show 6 / 128 = 0 from rfl, digHi_zero]
  rfl
theorem oid_ok : oidOk [1, 2, 840] = true := by decide
theorem oid_b : oidB [1, 2, 840] = [42, 134, 72] := by
  unfold oidB digAll
  rw [show (40 * ([1, 2, 840] : List Int).getD 0 0 + ([1, 2, 840] : List Int).getD 1 0).toNat = 42 from rfl, dig42, show ([1, 2, 840] : List Int).drop 2 = [840] from rfl, List.flatMap_cons, List.flatMap_nil, show (840 : Int).toNat = 840 from rfl, dig840]
  rfl
theorem oB_arcs : oB.arcs = some [1, 2, 840] := by
  unfold Nd.arcs
  rw [oB_may, show decide (oB.tag = 6) = true from rfl]
  rfl
theorem nB_nat : nB.isNat = true := by unfold Nd.isNat; rw [nB_may]; rfl
theorem nB_limbs : trimL (limbsN ((nB.b.length + 7) / 8) (beVal nB.b)) = [128] := by decide +kernel

/-- A node is read, wherever its memory lies. -/
def NdU (w : World) (f : NF) (n : Nd) : Prop := NdR (fun b => b < w.heap.size) NB w f n
theorem NdU.below {w w' : World} {f : NF} {n : Nd} (h : NdU w f n) (hb : Below w.heap.size w w') : NdU w' f n :=
  (NdR.bel h hb (fun b hb => hb)).mono (fun b hb' => by have := hb.size; omega) (fun _ h => h)
theorem NdU.of {w : World} {B : Nat} {f : NF} {n : Nd} (h : NdR (fun b => B ≤ b ∧ b < w.heap.size) NB w f n) : NdU w f n := h.mono (fun b hb => hb.2) (fun _ h => h)
/-- A new variable is laid and written. -/
theorem boxed {w1 w2 : World} {N : Nat} {o : Obj} (hN : w1.heap.size = N) (hT : Turn [N] (w1.alloc o) w2) : Below w1.heap.size w1 w2 :=
  below_turn ((Below.refl _ _).alloc (Nat.le_refl _) _) hT (fun t ht => by simp at ht; omega) (by simp)
theorem B4 : ((4 : Nat) : Int) = 4 := rfl
set_option maxRecDepth 100000 in
set_option maxHeartbeats 8000000 in
theorem begun_any (w : World) : Calls Try.prog 8 #[] w fun e w' => e = .returned (.bool true) ∧ Below w.heap.size w w' := by
  obtain ⟨X, hX⟩ : ∃ X, w.heap.size = X := ⟨_, rfl⟩
  obtain ⟨wA, hwA⟩ : ∃ wA, w.alloc (.cells #[.int .u64 128] 58) = wA := ⟨_, rfl⟩
  have bA : Blk wA X 58 #[.int .u64 128] := by rw [← hwA, ← hX]; exact Blk.new _ _ _
  have hbA : Below w.heap.size w wA := by rw [← hwA]; exact (Below.refl _ _).alloc (Nat.le_refl _) _
  have hi := int_any (some ⟨X, 0, none⟩) 1 1 [128] wA (Blk.rdC Try.eU bA rfl) ⟨Nat.le_refl _, by decide⟩ (fun h => nomatch h) (by omega)
  rw [int128] at hi
  have HA := Lib.hid hbA
  clear hbA bA
  go_enter Try.func8, Try.ntmps8
  go_wp2_with fail
  try rw [hX]
  try rw [hwA]
  go_wp2_with fail
  refine hi.mono ?_
  rintro e w1 ⟨⟨tn, B1, n1, k1, B2, n2, k2⟩, rfl, hN1, hb1⟩
  have H1 := Lib.hid (And.intro hN1 (HA.out.trans (hb1.mono HA.out.size)))
  clear hN1 hb1 hi hwA
  obtain ⟨N1, hN1s⟩ : ∃ N1, w1.heap.size = N1 := ⟨_, rfl⟩
  have bZ : Blk (w1.alloc (.cells #[.int .i64 0, .slice none 0 0, .slice none 0 0] 25)) N1 25 #[.int .i64 0, .slice none 0 0, .slice none 0 0] := by rw [← hN1s]; exact Blk.new _ _ _
  have HZ := Lib.hid bZ
  clear bZ
  simp only [NF.val]
  go_upto_region 2 with (refine wpList_store_arr rfl 25 (.tmp 1) (.tmp 15) rfl N1 25 _ [.int .i64 tn, .slice B1 n1 k1, .slice B2 n2 k2] HZ.out rfl rfl (by kernel_rfl) rfl rfl ?_; intro w2 hB2 hT2; have H2 := Lib.hid (And.intro hB2 hT2); clear hB2 hT2)
  try simp only [Act.put]
  have hb2 := boxed hN1s H2.out.2
  have H3 := Lib.hid (And.intro ((NdU.of H1.out.1).below hb2) (H1.out.2.trans (hb2.mono H1.out.2.size)))
  clear hb2
  have y0 := H2.out.1.cell 0
  have y1 := H2.out.1.cell 1
  have y2 := H2.out.1.cell 2
  simp only [List.getElem?_toArray, List.getElem?_cons_succ, List.getElem?_cons_zero] at y0 y1 y2
  have hw := writeTop_any _ nB ⟨tn, B1, n1, k1, B2, n2, k2⟩ w2 H3.out.1 (fun b hb => hb)
  rw [nB_wok, nB_out] at hw
  simp only [NF.val] at hw
  go_wp2_with fail
  refine hw.mono ?_
  rintro e w3 ⟨A3, n3, c3, rfl, ho3, hb3⟩
  have hn3 := ho3.len
  have hr := read_any A3 n3 c3 [2, 2, 0, 128] w3 ho3.rd (by simp at hn3; omega)
  rw [nB_read] at hr
  have H4 := Lib.hid (And.intro ho3 (And.intro (H2.out.1.below hb3) (And.intro (H3.out.1.below hb3) (H3.out.2.trans (hb3.mono H3.out.2.size)))))
  clear ho3 hb3 hw y0 y1 y2 hn3
  go_wp2_with fail
  refine hr.mono ?_
  rintro e w4 ⟨⟨⟨tm, D1, p1, r1, D2, p2, r2⟩, rfl, hN4⟩, hb4⟩
  obtain ⟨N4, hN4s⟩ : ∃ N4, w4.heap.size = N4 := ⟨_, rfl⟩
  have bZ : Blk (w4.alloc (.cells #[.int .i64 0, .slice none 0 0, .slice none 0 0] 25)) N4 25 #[.int .i64 0, .slice none 0 0, .slice none 0 0] := by rw [← hN4s]; exact Blk.new _ _ _
  have H5 := Lib.hid (And.intro (H4.out.1.below hb4) (And.intro (H4.out.2.1.below hb4) (And.intro (H4.out.2.2.1.below hb4) (And.intro (NdU.of hN4) (And.intro bZ (H4.out.2.2.2.trans (hb4.mono H4.out.2.2.2.size)))))))
  clear hN4 hb4 hr bZ
  simp only [NF.val]
  rw [B4]
  go_upto_region 4 with (refine wpList_store_arr rfl 25 (.tmp 4) (.tmp 24) rfl N4 25 _ [.int .i64 tm, .slice D1 p1 r1, .slice D2 p2 r2] H5.out.2.2.2.2.1 rfl rfl (by kernel_rfl) rfl rfl ?_; intro w5 hB5 hT5; have H5b := Lib.hid (And.intro hB5 hT5); clear hB5 hT5)
  try simp only [Act.put]
  have hb5 := boxed hN4s H5b.out.2
  have H6 := Lib.hid (And.intro (H5.out.1.below hb5) (And.intro (H5.out.2.1.below hb5) (And.intro (H5.out.2.2.1.below hb5) (And.intro (H5.out.2.2.2.1.below hb5) (And.intro H5b.out.1 (H5.out.2.2.2.2.2.trans (hb5.mono H5.out.2.2.2.2.2.size)))))))
  clear hb5
  obtain ⟨X6, hX6⟩ : ∃ X6, w5.heap.size = X6 := ⟨_, rfl⟩
  obtain ⟨w6, hw6⟩ : ∃ w6, w5.alloc (.cells #[.int .i64 1, .int .i64 2, .int .i64 840] 3) = w6 := ⟨_, rfl⟩
  have b6 : Blk w6 X6 3 #[.int .i64 1, .int .i64 2, .int .i64 840] := by rw [← hw6, ← hX6]; exact Blk.new _ _ _
  have hb6 : Below w5.heap.size w5 w6 := by rw [← hw6]; exact (Below.refl _ _).alloc (Nat.le_refl _) _
  have hR6 : RdC Try.eI w6 (some ⟨X6, 0, none⟩) 3 [1, 2, 840] := ⟨rfl, .inr ⟨X6, 0, rfl, b6.lt, fun j u hu => by
    rw [Nat.zero_add, b6.cell, ← Array.getElem?_toList]; exact hu⟩⟩
  have hoid := oid_any (some ⟨X6, 0, none⟩) 3 3 [1, 2, 840] w6 hR6 ⟨Nat.le_refl _, by decide⟩ (by omega)
  rw [oid_ok] at hoid
  unfold OidPost at hoid
  rw [oid_b] at hoid
  have H7 := Lib.hid hb6
  clear b6 hb6 hR6
  go_wp2_with fail
  try rw [hX6]
  try rw [hw6]
  go_wp2_with fail
  refine hoid.mono ?_
  rintro e w7 ⟨⟨⟨tq, E1, q1, s1, E2, q2, s2⟩, rfl, hN7⟩, hb7⟩
  obtain ⟨N7, hN7s⟩ : ∃ N7, w7.heap.size = N7 := ⟨_, rfl⟩
  have hb57 := H7.out.trans (hb7.mono H7.out.size)
  have bZ : Blk (w7.alloc (.cells #[.int .i64 0, .slice none 0 0, .slice none 0 0] 25)) N7 25 #[.int .i64 0, .slice none 0 0, .slice none 0 0] := by rw [← hN7s]; exact Blk.new _ _ _
  have H8 := Lib.hid (And.intro (H6.out.1.below hb57) (And.intro (H6.out.2.1.below hb57) (And.intro (H6.out.2.2.1.below hb57) (And.intro (H6.out.2.2.2.1.below hb57) (And.intro (H6.out.2.2.2.2.1.below hb57) (And.intro (show NdU w7 _ oB from NdU.of hN7) (And.intro bZ (H6.out.2.2.2.2.2.trans (hb57.mono H6.out.2.2.2.2.2.size)))))))))
  clear hN7 hb7 hoid bZ hb57 hw6
  simp only [NF.val]
  go_upto_region 5 with (refine wpList_store_arr rfl 25 (.tmp 7) (.tmp 30) rfl N7 25 _ [.int .i64 tq, .slice E1 q1 s1, .slice E2 q2 s2] H8.out.2.2.2.2.2.2.1 rfl rfl (by kernel_rfl) rfl rfl ?_; intro w8 hB8 hT8; have H8b := Lib.hid (And.intro hB8 hT8); clear hB8 hT8)
  try simp only [Act.put]
  have hb8 := boxed hN7s H8b.out.2
  have H9 := Lib.hid (And.intro (H8.out.1.below hb8) (And.intro (H8.out.2.1.below hb8) (And.intro (H8.out.2.2.1.below hb8) (And.intro (H8.out.2.2.2.1.below hb8) (And.intro (H8.out.2.2.2.2.1.below hb8) (And.intro (H8.out.2.2.2.2.2.1.below hb8) (H8.out.2.2.2.2.2.2.2.trans (hb8.mono H8.out.2.2.2.2.2.2.2.size))))))))
  clear hb8
  have x0 := H8b.out.1.cell 0
  have x1 := H8b.out.1.cell 1
  have x2 := H8b.out.1.cell 2
  simp only [List.getElem?_toArray, List.getElem?_cons_succ, List.getElem?_cons_zero] at x0 x1 x2
  have ha := arcs_any _ _ oB ⟨tq, E1, q1, s1, E2, q2, s2⟩ w8 H9.out.2.2.2.2.2.1 (fun b hb => hb) (by decide)
  rw [oB_arcs] at ha
  simp only [NF.val] at ha
  go_wp2_with fail
  refine ha.mono ?_
  rintro e w9 ⟨⟨A9, n9, c9, rfl, ho9⟩, hb9⟩
  have hn9 := ho9.len
  have H10 := Lib.hid (And.intro (H9.out.1.below hb9) (And.intro (H9.out.2.1.below hb9) (And.intro (H9.out.2.2.1.below hb9) (And.intro (H9.out.2.2.2.1.below hb9) (And.intro (H9.out.2.2.2.2.1.below hb9) (H9.out.2.2.2.2.2.2.trans (hb9.mono H9.out.2.2.2.2.2.2.size)))))))
  obtain rfl : n9 = 3 := hn9
  clear ho9 hb9 ha x0 x1 x2
  have x0 := H10.out.2.2.2.2.1.cell 0
  have x1 := H10.out.2.2.2.2.1.cell 1
  have x2 := H10.out.2.2.2.2.1.cell 2
  simp only [List.getElem?_toArray, List.getElem?_cons_succ, List.getElem?_cons_zero] at x0 x1 x2
  have hnat := nat_any _ _ nB ⟨tm, D1, p1, r1, D2, p2, r2⟩ w9 H10.out.2.2.2.1 (fun b hb => hb) (by decide)
  rw [nB_nat] at hnat
  unfold NatPost at hnat
  rw [nB_limbs] at hnat
  simp only [NF.val] at hnat
  go_wp2_with fail
  refine hnat.mono ?_
  rintro e w10 ⟨⟨g10, n10, c10, rfl, _, _, _, hr10, _⟩, hb10⟩
  obtain rfl : 1 = n10 := hr10
  have H11 := Lib.hid (And.intro (H10.out.1.below hb10) (And.intro (H10.out.2.1.below hb10) (And.intro (H10.out.2.2.1.below hb10) (H10.out.2.2.2.2.2.trans (hb10.mono H10.out.2.2.2.2.2.size)))))
  clear hb10 hnat x0 x1 x2
  have x0 := H11.out.2.1.cell 0
  have x1 := H11.out.2.1.cell 1
  have x2 := H11.out.2.1.cell 2
  simp only [List.getElem?_toArray, List.getElem?_cons_succ, List.getElem?_cons_zero] at x0 x1 x2
  have hwk := walk_any ⟨tn, B1, n1, k1, B2, n2, k2⟩ w10
  simp only [NF.val] at hwk
  go_wp2_with fail
  refine hwk.mono ?_
  rintro e w11 ⟨⟨aw, rfl⟩, hb11⟩
  have H12 := Lib.hid (And.intro (H11.out.1.below hb11) (And.intro (H11.out.2.1.below hb11) (And.intro (H11.out.2.2.1.below hb11) (H11.out.2.2.2.trans (hb11.mono H11.out.2.2.2.size)))))
  clear hb11 hwk x0 x1 x2
  have x0 := H12.out.2.1.cell 0
  have x1 := H12.out.2.1.cell 1
  have x2 := H12.out.2.1.cell 2
  simp only [List.getElem?_toArray, List.getElem?_cons_succ, List.getElem?_cons_zero] at x0 x1 x2
  have hnn := notNilW #[.pointer (some aw)] w11
  have hs := H12.out.1.rd.str
  have hmy := mayTop_any _ _ nB ⟨tn, B1, n1, k1, B2, n2, k2⟩ w11 H12.out.2.2.1 (fun b hb => hb)
  rw [nB_may] at hmy
  simp only [NF.val] at hmy
  have HM := Lib.hid hmy
  clear hmy
  go_wp2_with fail
  refine HM.out.mono ?_
  rintro e w12 ⟨rfl, hb12⟩
  have H13 := Lib.hid (H12.out.2.2.2.trans (hb12.mono H12.out.2.2.2.size))
  clear hb12 hs hnn
  go_wp2_with fail
  go_ret
  exact ⟨rfl, by first | exact H13.out | (rw [← hX]; exact H13.out)⟩
end Go.Proofs.Ytgkhhinjdojbhaa
