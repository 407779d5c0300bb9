/-
  DER: the law DerEdges.
-/
import Derived.Test.YtgkhhinjdojbhaaRnB
import Derived.Test.YtgkhhinjdojbhaaRnP
namespace Go.Proofs.Ytgkhhinjdojbhaa
open Go.RowKit

theorem intNd_may (v : Nat) : (intNd v).may = true := by
  have h := (intNd_nat v).1
  unfold Nd.isNat at h
  rw [Bool.and_eq_true] at h
  exact h.2
theorem intNd_wok {v : Nat} (h : v < 4294967296 ^ 60) : (intNd v).wok = true := by
  unfold Nd.wok
  rw [intNd_may, Bool.true_and]
  refine decide_eq_true ?_
  have h0 : ∀ k, v < 4294967296 ^ k → bl v ≤ 32 * k := fun k hk => bl_le (by rw [Nat.pow_mul]; exact hk)
  have h1 := h0 60 h
  unfold intNd
  rw [Nd.enc, if_neg (by decide), hdr_len, beN_len]
  have := lenB_le (n := bl v / 8 + 1) (by omega)
  omega
/-- The numbers about a power of two. -/
def edge (n i : Nat) : Nat := if i = 0 then 2 ^ n - 1 else if i = 1 then 2 ^ n else 2 ^ n + 1
theorem edge_ltk {n i k : Nat} (h : n + 2 ≤ 32 * k) : edge n i < 4294967296 ^ k := by
  have h1 : (2 : Nat) ^ (n + 2) ≤ 4294967296 ^ k := by
    rw [show (4294967296 : Nat) = 2 ^ 32 from rfl, ← Nat.pow_mul]
    exact Nat.pow_le_pow_right (by omega) h
  have h2 : 1 ≤ 2 ^ n := Nat.pow_pos (by omega)
  rw [Nat.pow_add] at h1
  obtain ⟨P, hP⟩ : ∃ P : Nat, 2 ^ n = P := ⟨_, rfl⟩
  rw [hP] at h1 h2
  unfold edge
  rw [hP]
  split
  · omega
  · split <;> omega
theorem edge_lt60 {n i : Nat} (h : n ≤ 600) : edge n i < 4294967296 ^ 60 := edge_ltk (by omega)
theorem edge_len {n i : Nat} (h : n ≤ 600) : (dB 4294967296 (edge n i)).length ≤ 20 := dB_len (by omega) (edge_ltk (by omega))
theorem intNd_len {w : World} {f : NF} {v : Nat} {P : Nat → Prop} {Z : NF → Prop} (h : NdR P Z w f (intNd v)) : f.m1 = bl v / 8 + 1 := by
  obtain ⟨n, hn⟩ : ∃ n, intNd v = n := ⟨_, rfl⟩
  have hb := (intNd_nat v).2.2
  rw [hn] at h hb
  cases h with
  | mk _ bs fs ks h1 => rw [h1.1]; exact hb
set_option maxRecDepth 100000 in
set_option maxHeartbeats 8000000 in
theorem derEdges_any (a : Int) (w : World) :
    Calls Try.prog 7 #[.int .i64 a] w fun e w' => e = .returned (.bool true) ∧ Below w.heap.size w w' := by
  have hbg := begun_any w
  go_enter Try.func7, Try.ntmps7
  go_wp2_with fail
  refine hbg.mono ?_
  rintro e w1 ⟨rfl, hb1⟩
  clear hbg
  have H1 := Lib.hid hb1
  clear hb1
  by_cases h1 : a < 0
  · have t1 : decide (a < 0) = true := decide_eq_true h1
    go_wp2_with fail
    go_ret
    exact ⟨rfl, H1.out⟩
  have t1 : decide (a < 0) = false := decide_eq_false h1
  by_cases h2 : 600 < a
  · have t2 : decide (600 < a) = true := decide_eq_true h2
    go_wp2_with fail
    go_ret
    exact ⟨rfl, H1.out⟩
  have t2 : decide (600 < a) = false := decide_eq_false h2
  obtain ⟨n, rfl⟩ : ∃ n : Nat, a = n := ⟨a.toNat, by omega⟩
  have hn : n ≤ 600 := by omega
  have hof := rof_any 1 w1
  rw [show (((1 : UInt64).toNat : Nat) : Int) = 1 from rfl] at hof
  rw [show (1 : UInt64).toNat = 1 from rfl] at hof
  go_wp2_with fail
  clear t1 t2 h1 h2
  refine hof.mono ?_
  rintro e w2 ⟨A1, n1, rfl, hN1, hb2⟩
  clear hof
  have H2 := Lib.hid (And.intro hN1.1 (H1.out.trans (hb2.mono H1.out.size)))
  clear hN1 hb2
  have hp := rpower2_any n (by omega) w2
  go_wp2_with fail
  refine hp.mono ?_
  rintro e w3 ⟨A2, n2, rfl, hN2, hb3⟩
  clear hp
  have hn1 : n1 ≤ 20 := by have h9 := H2.out.1.1; have := dB_len (b := 4294967296) (n := 1) (k := 20) (by omega) (by decide); omega
  have hn2 : n2 ≤ 20 := by have h9 := hN2.1.1; have h8 := edge_len (i := 1) hn; unfold edge at h8; rw [if_neg (by decide), if_pos rfl] at h8; omega
  have H3 := Lib.hid (And.intro (H2.out.1.below hb3) (And.intro hN2.1 (H2.out.2.trans (hb3.mono H2.out.2.size))))
  clear hN2 hb3
  have hs := rsub_any A2 n2 n2 (2 ^ n) A1 n1 n1 1 w3 H3.out.2.1 H3.out.1 (by omega) (by omega) (Nat.pow_pos (by omega))
  go_wp2_with fail
  refine hs.mono ?_
  rintro e w4 ⟨A3, n3, rfl, hN3, hb4⟩
  clear hs
  have hn3 : n3 ≤ 20 := by have h9 := hN3.1.1; have h8 := edge_len (i := 0) hn; unfold edge at h8; rw [if_pos rfl] at h8; omega
  have H4 := Lib.hid (And.intro (H3.out.1.below hb4) (And.intro (H3.out.2.1.below hb4) (And.intro hN3.1 (H3.out.2.2.trans (hb4.mono H3.out.2.2.size)))))
  clear hN3 hb4
  have hs := radd_any A2 n2 n2 (2 ^ n) A1 n1 n1 1 w4 H4.out.2.1 H4.out.1 (by omega) (by omega)
  go_wp2_with fail
  refine hs.mono ?_
  rintro e w5 ⟨A4, n4, rfl, hN4, hb5⟩
  clear hs
  have hn4 : n4 ≤ 20 := by have h9 := hN4.1.1; have h8 := edge_len (i := 2) hn; unfold edge at h8; rw [if_neg (by decide), if_neg (by decide)] at h8; omega
  have H5 := Lib.hid (And.intro (H4.out.2.1.below hb5) (And.intro (H4.out.2.2.1.below hb5) (And.intro hN4.1 (H4.out.2.2.2.trans (hb5.mono H4.out.2.2.2.size)))))
  clear hN4 hb5
  go_upto_region 7 with fail
  obtain ⟨L, hL⟩ : ∃ L, w5.heap.size = L := ⟨_, rfl⟩
  obtain ⟨w6, hw6⟩ : ∃ w6, w5.alloc (.cells #[.slice A3 n3 n3, .slice A2 n2 n2, .slice A4 n4 n4] 41) = w6 := ⟨_, rfl⟩
  have hb6 : Below w5.heap.size w5 w6 := by rw [← hw6]; exact (Below.refl _ _).alloc (Nat.le_refl _) _
  have bL : Blk w6 L 41 #[.slice A3 n3 n3, .slice A2 n2 n2, .slice A4 n4 n4] := by rw [← hw6, ← hL]; exact Blk.new _ _ _
  have hall : ∀ i, i < 3 → ∃ A m, w6.cell? ⟨L, i, none⟩ = some (.slice A m m) ∧ RdC Try.eU w6 A m (dB 4294967296 (edge n i)) ∧ m ≤ 20 := by
    intro i hi
    rcases (show i = 0 ∨ i = 1 ∨ i = 2 by omega) with rfl | rfl | rfl
    · exact ⟨A3, n3, by rw [bL.cell]; rfl, H5.out.2.1.below hb6, hn3⟩
    · exact ⟨A2, n2, by rw [bL.cell]; rfl, H5.out.1.below hb6, hn2⟩
    · exact ⟨A4, n4, by rw [bL.cell]; rfl, H5.out.2.2.1.below hb6, hn4⟩
  have hLs : L < w6.heap.size := bL.lt
  have H6 := Lib.hid (And.intro hall (And.intro (H5.out.2.2.2.trans (hb6.mono H5.out.2.2.2.size)) hLs))
  try rw [hL]
  try rw [hw6]
  clear hall hb6 bL hw6 hL hn1 hn2 hn3 hn4 hLs
  go_wp2_with fail
  go_loopw [7] (fun kk wr => ∃ i : Nat, i ≤ 3 ∧ kk = .int .i64 (i : Int) ∧ Old w6 wr) (fun kk _ => 3 - (intOf kk).toNat)
  case atStart => exact ⟨0, by omega, rfl, Old.refl _⟩
  case round =>
    obtain ⟨i, hi, rfl, ho⟩ := hrel
    have hi0 : ¬ ((i : Int) < 0) := by omega
    have hW := H6.out.2.1.trans (ho.mono H6.out.2.1.size)
    have HO := Lib.hid (And.intro ho hW)
    clear ho hW
    by_cases hlt : i < 3
    · have hlti : (i : Int) < 3 := by omega
      have hltd : decide ((i : Int) < 3) = true := decide_eq_true hlti
      obtain ⟨A, m, hcl, hrd, hm⟩ := H6.out.1 i hlt
      have hcl1 := cell_old HO.out.1 hcl
      obtain ⟨v, hv⟩ : ∃ v, edge n i = v := ⟨_, rfl⟩
      rw [hv] at hrd
      have HV := Lib.hid (And.intro hrd (And.intro hcl (And.intro (show (intNd v).wok = true by rw [← hv]; exact intNd_wok (edge_lt60 hn)) hm)))
      have hto := rto_any A m m v wr (hrd.below HO.out.1) (by omega)
      clear hrd hcl hv hm
      go_wp2_with fail
      refine hto.mono ?_
      rintro e w7 ⟨A7, n7, c7, rfl, hO7, hb7⟩
      clear hto
      have hcl7 := cell_old hb7 hcl1
      have h64 := dB64_len v
      have hit := int_any A7 n7 c7 _ w7 hO7.rd hO7.max.2 hO7.nilc (by have h9 := hO7.len; have h8 := HV.out.1.1; have h7 := HV.out.2.2.2; omega)
      rw [← valB_64, valB_dB (by omega) (by omega)] at hit
      have H7 := Lib.hid (And.intro (Old.trans HO.out.1 hb7) (HO.out.2.trans (hb7.mono HO.out.2.size)))
      clear hO7 hb7 hcl1 h64
      go_wp2_with fail
      refine hit.mono ?_
      rintro e w8 ⟨⟨t9, D1, d1, e1, D2, d2, e2⟩, rfl, hN8, hb8⟩
      clear hit hcl7
      have hwr := writeTop_any _ (intNd v) ⟨t9, D1, d1, e1, D2, d2, e2⟩ w8 hN8 (fun b hb => hb.2)
      rw [HV.out.2.2.1] at hwr
      simp only [NF.val] at hwr ⊢
      have H8 := Lib.hid (And.intro (Old.trans H7.out.1 hb8) (H7.out.2.trans (hb8.mono H7.out.2.size)))
      clear hN8 hb8
      go_wp2_with fail
      refine hwr.mono ?_
      rintro e w9 ⟨A9, n9, c9, rfl, hO9, hb9⟩
      clear hwr
      have hn9 : n9 = (intNd v).enc.length := by
        have h9 := hO9.len
        unfold Nd.out at h9
        rw [if_pos HV.out.2.2.1] at h9
        exact h9
      have hel : (intNd v).enc.length ≤ 65536 := by
        have h9 := HV.out.2.2.1
        unfold Nd.wok at h9
        rw [Bool.and_eq_true, decide_eq_true_eq] at h9
        exact h9.2
      have hrr := read_any A9 n9 c9 _ w9 hO9.rd (by omega)
      have hro := rdO_out HV.out.2.2.1 []
      rw [List.append_nil, ← hn9] at hro
      rw [hro] at hrr
      have H9 := Lib.hid (And.intro (Old.trans H8.out.1 hb9) (H8.out.2.trans (hb9.mono H8.out.2.size)))
      have hn9b : (n9 : Int) ≤ 65536 := by omega
      clear hO9 hb9 hn9 hel hro
      go_wp2_with fail
      refine hrr.mono ?_
      rintro e w10 ⟨hp, hb10⟩
      obtain ⟨⟨t10, E1, g1, i1, E2, g2, i2⟩, rfl, hN10⟩ := hp
      clear hrr
      have hg1 := intNd_len hN10
      simp only [NF.val] at hg1 ⊢
      obtain ⟨N1, hN1⟩ : ∃ N1, w10.heap.size = N1 := ⟨_, rfl⟩
      have bZ : Blk (w10.alloc (.cells #[.int .i64 0, .slice none 0 0, .slice none 0 0] 25)) N1 25 #[.int .i64 0, .slice none 0 0, .slice none 0 0] := by rw [← hN1]; exact Blk.new _ _ _
      have H10 := Lib.hid (And.intro (Old.trans H9.out.1 hb10) (And.intro (H9.out.2.trans (hb10.mono H9.out.2.size)) (And.intro bZ (And.intro (NdU2.of hN10) hg1))))
      clear hN10 hb10 bZ hg1
      go_upto_region 12 with (refine wpList_store_arr rfl 25 (.tmp 10) (.tmp 51) rfl N1 25 _ [.int .i64 t10, .slice E1 g1 i1, .slice E2 g2 i2] H10.out.2.2.1 rfl rfl (by kernel_rfl) rfl rfl ?_; intro w11 hB hT; have H11b := Lib.hid (And.intro hB hT); clear hB hT)
      try simp only [Act.put]
      have hb11 := boxed hN1 H11b.out.2
      have H11 := Lib.hid (And.intro (Old.trans H10.out.1 hb11) (And.intro (H10.out.2.1.trans (hb11.mono H10.out.2.1.size)) (And.intro H11b.out.1 (H10.out.2.2.2.1.below hb11))))
      clear hb11 hN1
      have y0 := H11.out.2.2.1.cell 0
      have y1 := H11.out.2.2.1.cell 1
      have y2 := H11.out.2.2.1.cell 2
      simp only [List.getElem?_toArray, List.getElem?_cons_succ, List.getElem?_cons_zero] at y0 y1 y2
      have hnt := nat_any _ _ (intNd v) ⟨t10, E1, g1, i1, E2, g2, i2⟩ w11 H11.out.2.2.2 (fun b hb => hb) (by rw [(intNd_nat v).2.2]; have h9 := bl_len32 v; have h8 := HV.out.1.1; have h7 := HV.out.2.2.2; omega)
      simp only [NF.val] at hnt
      go_wp2_with fail
      refine hnt.mono ?_
      rintro e w12 ⟨hp, hb12⟩
      obtain ⟨A12, n12, c12, rfl, hR12⟩ := hp.uni
      rw [natV_int] at hR12
      rw [(intNd_nat v).1]
      clear hnt hp y0 y1 y2
      have bN := H11.out.2.2.1.below hb12
      have y1 := bN.cell 1
      simp only [List.getElem?_toArray, List.getElem?_cons_succ, List.getElem?_cons_zero] at y1
      have hO12 := Old.trans H11.out.1 hb12
      have hcl12 := cell_old hO12 HV.out.2.1
      obtain ⟨bq, hbq⟩ : ∃ bq, bl v = bq := ⟨_, rfl⟩
      obtain ⟨b8, hb8⟩ : ∃ b8, bq / 8 = b8 := ⟨_, rfl⟩
      have hbb : bq ≤ 640 := by rw [← hbq]; have h9 := bl_len32 v; have h8 := HV.out.1.1; have h7 := HV.out.2.2.2; omega
      have hq1 : (bq : Int).tdiv 8 = (b8 : Int) := by rw [Int.tdiv_eq_ediv_of_nonneg (by omega)]; omega
      have hb8b : (b8 : Int) ≤ 80 := by omega
      have hg1 : g1 = b8 + 1 := by have h9 := H10.out.2.2.2.2; rw [hbq, hb8] at h9; exact h9
      have H12 := Lib.hid (And.intro hO12 (And.intro hR12 (And.intro (H11.out.2.1.trans (hb12.mono H11.out.2.1.size)) (And.intro y1 (And.intro hcl12 hbq)))))
      have hn12 : n12 ≤ 1000 := by have h9 := hR12.1; have h8 := HV.out.1.1; have h7 := HV.out.2.2.2; have h6 := dB64_len v; omega
      have HM := Lib.hid (And.intro hn12 (show m ≤ 1000 by have h7 := HV.out.2.2.2; omega))
      have hwb : IntKind.i64.wrap (b8 : Int) = (b8 : Int) := IntWalk.i64_in _ (by omega)
      have hwb1 : IntKind.i64.wrap ((b8 : Int) + 1) = (b8 : Int) + 1 := IntWalk.i64_in _ (by omega)
      subst hg1
      clear hO12 hR12 hb12 bN y1 hcl12 hbq hb8 hbb hn12
      go_wp2_with fail
      refine region_old (by kernel_rfl) (fun wd hHeld hSz => ?_)
      have HSz := Lib.hid hSz
      clear hSz
      refine takeL (i := 0) (v := ?_) rfl (by kernel_rfl) (by kernel_rfl) (by kernel_rfl) (fun _ _ _ h => h) (Or.inl ⟨by rfl, ?_⟩) hHeld ?_
      rotate_left
      focus (intro wq hSw; clear hSw; go_simp; try with_reducible rfl)
      try simp only [Act.put, List.setIfInBounds_toArray, List.set_cons_zero, List.set_cons_succ]
      refine takeL (i := 1) (v := ?_) rfl (by kernel_rfl) (by kernel_rfl) (by kernel_rfl) (fun _ _ _ h => h) (Or.inl ⟨by rfl, ?_⟩) hHeld ?_
      rotate_left
      focus (intro wq hSw; clear hSw; go_simp; try with_reducible rfl)
      try simp only [Act.put, List.setIfInBounds_toArray, List.set_cons_zero, List.set_cons_succ]
      refine takeL (i := 2) (v := ?_) rfl (by kernel_rfl) (by kernel_rfl) (by kernel_rfl) (fun _ _ _ h => h) (Or.inl ⟨by rfl, ?_⟩) hHeld ?_
      rotate_left
      focus (intro wq hSw; clear hSw; go_simp; try with_reducible rfl)
      try simp only [Act.put, List.setIfInBounds_toArray, List.set_cons_zero, List.set_cons_succ]
      refine takeL (i := 3) (v := ?_) rfl (by kernel_rfl) (by kernel_rfl) (by kernel_rfl) (fun _ _ _ h => h) (Or.inl ⟨by rfl, ?_⟩) hHeld ?_
      rotate_left
      focus (intro wq hSw; clear hSw; go_simp; try with_reducible rfl)
      try simp only [Act.put, List.setIfInBounds_toArray, List.set_cons_zero, List.set_cons_succ]
      refine takeL (i := 4) (v := ?_) rfl (by kernel_rfl) (by kernel_rfl) (by kernel_rfl) (fun _ _ _ h => h) (Or.inl ⟨by rfl, ?_⟩) hHeld ?_
      rotate_left
      focus (intro wq hSw; clear hSw; go_simp; try with_reducible rfl)
      try simp only [Act.put, List.setIfInBounds_toArray, List.set_cons_zero, List.set_cons_succ]
      refine takeL (i := 5) (v := ?_) rfl (by kernel_rfl) (by kernel_rfl) (by kernel_rfl) (fun _ _ _ h => h) (Or.inl ⟨by rfl, ?_⟩) hHeld ?_
      rotate_left
      focus (intro wq hSw; clear hSw; go_simp; try with_reducible rfl)
      try simp only [Act.put, List.setIfInBounds_toArray, List.set_cons_zero, List.set_cons_succ]
      refine takeL (i := 6) (v := ?_) rfl (by kernel_rfl) (by kernel_rfl) (by kernel_rfl) (fun _ _ _ h => h) (Or.inl ⟨by rfl, ?_⟩) hHeld ?_
      rotate_left
      focus (intro wq hSw; clear hSw; go_simp; try with_reducible rfl)
      try simp only [Act.put, List.setIfInBounds_toArray, List.set_cons_zero, List.set_cons_succ]
      refine takeL (i := 7) (v := ?_) rfl (by kernel_rfl) (by kernel_rfl) (by kernel_rfl) (fun _ _ _ h => h) (Or.inl ⟨by rfl, ?_⟩) hHeld ?_
      rotate_left
      focus (intro wq hSw; clear hSw; go_simp; try with_reducible rfl)
      try simp only [Act.put, List.setIfInBounds_toArray, List.set_cons_zero, List.set_cons_succ]
      refine takeL (i := 8) (v := ?_) rfl (by kernel_rfl) (by kernel_rfl) (by kernel_rfl) (fun _ _ _ h => h) (Or.inl ⟨by rfl, ?_⟩) hHeld ?_
      rotate_left
      focus (intro wq hSw; clear hSw; go_simp; try with_reducible rfl)
      try simp only [Act.put, List.setIfInBounds_toArray, List.set_cons_zero, List.set_cons_succ]
      refine takeL (i := 9) (v := ?_) rfl (by kernel_rfl) (by kernel_rfl) (by kernel_rfl) (fun _ _ _ h => h) (Or.inl ⟨by rfl, ?_⟩) hHeld ?_
      rotate_left
      focus (intro wq hSw; clear hSw; go_simp; try with_reducible rfl)
      try simp only [Act.put, List.setIfInBounds_toArray, List.set_cons_zero, List.set_cons_succ]
      refine takeL (i := 10) (v := ?_) rfl (by kernel_rfl) (by kernel_rfl) (by kernel_rfl) (fun _ _ _ h => h) (Or.inl ⟨by rfl, ?_⟩) hHeld ?_
      rotate_left
      focus (intro wq hSw; clear hSw; go_simp; try with_reducible rfl)
      try simp only [Act.put, List.setIfInBounds_toArray, List.set_cons_zero, List.set_cons_succ]
      refine takeL (i := 11) (v := ?_) rfl (by kernel_rfl) (by kernel_rfl) (by kernel_rfl) (fun _ _ _ h => h) (Or.inl ⟨by rfl, ?_⟩) hHeld ?_
      rotate_left
      focus (intro wq hSw; clear hSw; go_simp; try with_reducible rfl)
      try simp only [Act.put, List.setIfInBounds_toArray, List.set_cons_zero, List.set_cons_succ]
      refine takeL (i := 12) (v := ?_) rfl (by kernel_rfl) (by kernel_rfl) (by kernel_rfl) (fun _ _ _ h => h) (Or.inl ⟨by rfl, ?_⟩) hHeld ?_
      rotate_left
      focus (intro wq hSw; clear hSw; go_simp; try with_reducible rfl)
      try simp only [Act.put, List.setIfInBounds_toArray, List.set_cons_zero, List.set_cons_succ]
      refine takeL (i := 13) (v := ?_) rfl (by kernel_rfl) (by kernel_rfl) (by kernel_rfl) (fun _ _ _ h => h) (Or.inl ⟨by rfl, ?_⟩) hHeld ?_
      rotate_left
      focus (intro wq hSw; clear hSw; go_simp; try with_reducible rfl)
      try simp only [Act.put, List.setIfInBounds_toArray, List.set_cons_zero, List.set_cons_succ]
      refine takeL (i := 14) (v := ?_) rfl (by kernel_rfl) (by kernel_rfl) (by kernel_rfl) (fun _ _ _ h => h) (Or.inl ⟨by rfl, ?_⟩) hHeld ?_
      rotate_left
      focus (intro wq hSw; clear hSw; go_simp; try with_reducible rfl)
      try simp only [Act.put, List.setIfInBounds_toArray, List.set_cons_zero, List.set_cons_succ]
      refine takeL (i := 15) (v := ?_) rfl (by kernel_rfl) (by kernel_rfl) (by kernel_rfl) (fun _ _ _ h => h) (Or.inl ⟨by rfl, ?_⟩) hHeld ?_
      rotate_left
      focus (intro wq hSw; clear hSw; go_simp; try with_reducible rfl)
      try simp only [Act.put, List.setIfInBounds_toArray, List.set_cons_zero, List.set_cons_succ]
      refine takeL (i := 16) (v := ?_) rfl (by kernel_rfl) (by kernel_rfl) (by kernel_rfl) (fun _ _ _ h => h) (Or.inl ⟨by rfl, ?_⟩) hHeld ?_
      rotate_left
      focus (intro wq hSw; clear hSw; go_simp; try with_reducible rfl)
      try simp only [Act.put, List.setIfInBounds_toArray, List.set_cons_zero, List.set_cons_succ]
      refine takeL (i := 17) (v := ?_) rfl (by kernel_rfl) (by kernel_rfl) (by kernel_rfl) (fun _ _ _ h => h) (Or.inl ⟨by rfl, ?_⟩) hHeld ?_
      rotate_left
      focus (intro wq hSw; clear hSw; go_simp; try with_reducible rfl)
      try simp only [Act.put, List.setIfInBounds_toArray, List.set_cons_zero, List.set_cons_succ]
      refine takeL (i := 18) (v := ?_) rfl (by kernel_rfl) (by kernel_rfl) (by kernel_rfl) (fun _ _ _ h => h) (Or.inl ⟨by rfl, ?_⟩) hHeld ?_
      rotate_left
      focus (intro wq hSw; clear hSw; go_simp; try with_reducible rfl)
      try simp only [Act.put, List.setIfInBounds_toArray, List.set_cons_zero, List.set_cons_succ]
      refine takeL (i := 19) (v := ?_) rfl (by kernel_rfl) (by kernel_rfl) (by kernel_rfl) (fun _ _ _ h => h) (Or.inl ⟨by rfl, ?_⟩) hHeld ?_
      rotate_left
      focus (intro wq hSw; clear hSw; go_simp; try with_reducible rfl)
      try simp only [Act.put, List.setIfInBounds_toArray, List.set_cons_zero, List.set_cons_succ]
      refine takeL (i := 20) (v := ?_) rfl (by kernel_rfl) (by kernel_rfl) (by kernel_rfl) (fun _ _ _ h => h) (Or.inl ⟨by rfl, ?_⟩) hHeld ?_
      rotate_left
      focus (intro wq hSw; clear hSw; go_simp; try with_reducible rfl)
      try simp only [Act.put, List.setIfInBounds_toArray, List.set_cons_zero, List.set_cons_succ]
      refine takeL (i := 21) (v := ?_) rfl (by kernel_rfl) (by kernel_rfl) (by kernel_rfl) (fun _ _ _ h => h) (Or.inl ⟨by rfl, ?_⟩) hHeld ?_
      rotate_left
      focus (intro wq hSw; have e0 := cell_old hSw H12.out.2.2.2.2.1; clear hSw; go_simp; try with_reducible rfl)
      try simp only [Act.put, List.setIfInBounds_toArray, List.set_cons_zero, List.set_cons_succ]
      refine wpAnyH_ready (rs := [22]) (by kernel_rfl) (by simp) ?_
      refine consL rfl (fun K hK => ?_) AllReadyH.nil
      go_simp
      refine (ris_any A12 n12 c12 A m m v _ (H12.out.2.1.below hHeld) ((HV.out.1.below H12.out.1).below hHeld) HM.out.1 HM.out.2).mono ?_
      rintro e w13 ⟨rfl, hb'⟩
      have hb' := Old.trans hHeld hb'
      refine hK.out _ _ hb' (fun hHeld => ?_)
      clear hK K
      try simp only [Act.put, List.setIfInBounds_toArray, List.set_cons_zero, List.set_cons_succ]
      refine takeL (i := 23) (v := ?_) rfl (by kernel_rfl) (by kernel_rfl) (by kernel_rfl) (fun _ _ _ h => h) (Or.inl ⟨by rfl, ?_⟩) hHeld ?_
      rotate_left
      focus (intro wq hSw; clear hSw; go_simp; try with_reducible rfl)
      try simp only [Act.put, List.setIfInBounds_toArray, List.set_cons_zero, List.set_cons_succ]
      refine takeL (i := 24) (v := ?_) rfl (by kernel_rfl) (by kernel_rfl) (by kernel_rfl) (fun _ _ _ h => h) (Or.inl ⟨by rfl, ?_⟩) hHeld ?_
      rotate_left
      focus (intro wq hSw; clear hSw; go_simp; try with_reducible rfl)
      try simp only [Act.put, List.setIfInBounds_toArray, List.set_cons_zero, List.set_cons_succ]
      refine takeL (i := 25) (v := ?_) rfl (by kernel_rfl) (by kernel_rfl) (by kernel_rfl) (fun _ _ _ h => h) (Or.inl ⟨by rfl, ?_⟩) hHeld ?_
      rotate_left
      focus (intro wq hSw; clear hSw; go_simp; try with_reducible rfl)
      try simp only [Act.put, List.setIfInBounds_toArray, List.set_cons_zero, List.set_cons_succ]
      refine takeL (i := 26) (v := ?_) rfl (by kernel_rfl) (by kernel_rfl) (by kernel_rfl) (fun _ _ _ h => h) (Or.inl ⟨by rfl, ?_⟩) hHeld ?_
      rotate_left
      focus (intro wq hSw; clear hSw; go_simp; try with_reducible rfl)
      try simp only [Act.put, List.setIfInBounds_toArray, List.set_cons_zero, List.set_cons_succ]
      refine takeL (i := 27) (v := ?_) rfl (by kernel_rfl) (by kernel_rfl) (by kernel_rfl) (fun _ _ _ h => h) (Or.inl ⟨by rfl, ?_⟩) hHeld ?_
      rotate_left
      focus (intro wq hSw; have e1 := cell_old hSw H12.out.2.2.2.1; clear hSw; go_simp; try with_reducible rfl)
      try simp only [Act.put, List.setIfInBounds_toArray, List.set_cons_zero, List.set_cons_succ]
      refine takeL (i := 28) (v := ?_) rfl (by kernel_rfl) (by kernel_rfl) (by kernel_rfl) (fun _ _ _ h => h) (Or.inl ⟨by rfl, ?_⟩) hHeld ?_
      rotate_left
      focus (intro wq hSw; clear hSw; go_simp; try with_reducible rfl)
      try simp only [Act.put, List.setIfInBounds_toArray, List.set_cons_zero, List.set_cons_succ]
      refine takeL (i := 29) (v := ?_) rfl (by kernel_rfl) (by kernel_rfl) (by kernel_rfl) (fun _ _ _ h => h) (Or.inl ⟨by rfl, ?_⟩) hHeld ?_
      rotate_left
      focus (intro wq hSw; clear hSw; go_simp; try with_reducible rfl)
      try simp only [Act.put, List.setIfInBounds_toArray, List.set_cons_zero, List.set_cons_succ]
      refine takeL (i := 30) (v := ?_) rfl (by kernel_rfl) (by kernel_rfl) (by kernel_rfl) (fun _ _ _ h => h) (Or.inl ⟨by rfl, ?_⟩) hHeld ?_
      rotate_left
      focus (intro wq hSw; clear hSw; go_simp; try with_reducible rfl)
      try simp only [Act.put, List.setIfInBounds_toArray, List.set_cons_zero, List.set_cons_succ]
      refine takeL (i := 31) (v := ?_) rfl (by kernel_rfl) (by kernel_rfl) (by kernel_rfl) (fun _ _ _ h => h) (Or.inl ⟨by rfl, ?_⟩) hHeld ?_
      rotate_left
      focus (intro wq hSw; clear hSw; go_simp; try with_reducible rfl)
      try simp only [Act.put, List.setIfInBounds_toArray, List.set_cons_zero, List.set_cons_succ]
      refine takeL (i := 32) (v := ?_) rfl (by kernel_rfl) (by kernel_rfl) (by kernel_rfl) (fun _ _ _ h => h) (Or.inl ⟨by rfl, ?_⟩) hHeld ?_
      rotate_left
      focus (intro wq hSw; have e0 := cell_old hSw H12.out.2.2.2.2.1; clear hSw; go_simp; try with_reducible rfl)
      try simp only [Act.put, List.setIfInBounds_toArray, List.set_cons_zero, List.set_cons_succ]
      refine wpAnyH_ready (rs := [33]) (by kernel_rfl) (by simp) ?_
      refine consL rfl (fun K hK => ?_) AllReadyH.nil
      go_simp
      refine (rbits_any A m m v _ ((HV.out.1.below H12.out.1).below hHeld) HM.out.2).mono ?_
      rintro e w' ⟨rfl, rfl⟩
      rw [H12.out.2.2.2.2.2]
      refine hK.out _ _ (by repeat (first | exact hHeld | exact Old.refl _ | assumption | refine Old.drew ?_ | refine Old.drewN ?_ _ | refine Old.alloc ?_ _)) (fun hHeld => ?_)
      clear hK K
      try simp only [Act.put, List.setIfInBounds_toArray, List.set_cons_zero, List.set_cons_succ]
      refine takeL (i := 34) (v := ?_) rfl (by kernel_rfl) (by kernel_rfl) (by kernel_rfl) (fun _ _ _ h => h) (Or.inl ⟨by rfl, ?_⟩) hHeld ?_
      rotate_left
      focus (intro wq hSw; clear hSw; go_simp; try with_reducible rfl)
      try simp only [Act.put, List.setIfInBounds_toArray, List.set_cons_zero, List.set_cons_succ]
      refine takeL (i := 35) (v := ?_) rfl (by kernel_rfl) (by kernel_rfl) (by kernel_rfl) (fun _ _ _ h => h) (Or.inl ⟨by rfl, ?_⟩) hHeld ?_
      rotate_left
      focus (intro wq hSw; clear hSw; go_simp; try with_reducible rfl)
      try simp only [Act.put, List.setIfInBounds_toArray, List.set_cons_zero, List.set_cons_succ]
      refine takeL (i := 36) (v := ?_) rfl (by kernel_rfl) (by kernel_rfl) (by kernel_rfl) (fun _ _ _ h => h) (Or.inl ⟨by rfl, ?_⟩) hHeld ?_
      rotate_left
      focus (intro wq hSw; clear hSw; go_simp; try with_reducible rfl)
      try simp only [Act.put, List.setIfInBounds_toArray, List.set_cons_zero, List.set_cons_succ]
      refine takeL (i := 37) (v := ?_) rfl (by kernel_rfl) (by kernel_rfl) (by kernel_rfl) (fun _ _ _ h => h) (Or.inl ⟨by rfl, ?_⟩) hHeld ?_
      rotate_left
      focus (intro wq hSw; clear hSw; go_simp; try with_reducible rfl)
      try simp only [Act.put, List.setIfInBounds_toArray, List.set_cons_zero, List.set_cons_succ]
      refine wpAnyH_done (by kernel_rfl) ?_ _
      refine NoPanic.normal ?_
      try simp only [Exit.then]
      have H13 := Lib.hid (Old.trans H12.out.1 hHeld)
      clear hHeld
      go_wp2_with fail
      exact ⟨⟨i + 1, by omega, by simp, H13.out⟩, by simp [intOf]; omega⟩
    · obtain rfl : i = 3 := by omega
      go_wp2_with fail
      go_ret
      exact ⟨rfl, HO.out.2⟩
end Go.Proofs.Ytgkhhinjdojbhaa
