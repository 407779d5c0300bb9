/-
  DER: the reference's Read.
-/
import Derived.Test.YtgkhhinjdojbhaaDer16
namespace Go.Proofs.Ytgkhhinjdojbhaa
open Go.RowKit

set_option maxRecDepth 100000 in
set_option maxHeartbeats 8000000 in
theorem refRead_any (A : Option Addr) (m c : Nat) (b : List UInt8) (w : World) (h : Rd w A m c b) (hm : m ≤ 1000000) :
    Calls Try.prog 17 #[.slice A m c] w fun e w' => ReadPost w w' e (rdO b) ∧ Below w.heap.size w w' := by
  obtain ⟨ans, hans⟩ : ∃ ans, rdO b = ans := ⟨_, rfl⟩
  rw [hans]
  obtain ⟨X, hX⟩ : ∃ X, w.heap.size = X := ⟨_, rfl⟩
  obtain ⟨wA, hwA⟩ : ∃ wA, w.alloc (.cells #[.int .i64 0, .slice none 0 0, .slice none 0 0] 25) = wA := ⟨_, rfl⟩
  have bA : Blk wA X 25 #[.int .i64 0, .slice none 0 0, .slice none 0 0] := by rw [← hwA, ← hX]; exact Blk.new _ _ _
  have hbA : Below w.heap.size w wA := by rw [← hwA]; exact (Below.refl _ _).alloc (Nat.le_refl _) _
  have hsA : wA.heap.size = X + 1 := by rw [← hwA, ← hX]; simp
  have hc := get_any 16 A m c b 1 wA (h.below hbA) hm (by omega) (by omega)
  have HB := Lib.hid (And.intro hbA (And.intro bA hsA))
  have HANS := Lib.hid hans
  have hmb := Lib.hid h.1
  clear hbA bA h hsA hans
  go_enter Try.func17, Try.ntmps17
  go_wp2_with fail
  try rw [hX]
  try rw [hwA]
  go_wp2_with fail
  refine hc.mono ?_
  rintro e wc ⟨hp, hb1⟩
  clear hc
  have HC := Lib.hid (And.intro (HB.out.2.1.below hb1) (And.intro (HB.out.1.trans (hb1.mono HB.out.1.size)) hb1))
  clear hb1 hwA
  have bZ : Blk (wc.alloc (.cells #[.int .i64 0, .slice none 0 0, .slice none 0 0] 25)) wc.heap.size 25 #[.int .i64 0, .slice none 0 0, .slice none 0 0] := Blk.new _ _ _
  have HZ := Lib.hid bZ
  clear bZ
  cases hq : dec 16 b with
  | none =>
    rw [hq] at hp
    obtain rfl := hp
    have HA2 := Lib.hid (show ans = none by rw [← HANS.out]; exact rdO_none hq)
    obtain ⟨tg, B1, n1, k1, B2, n2, k2, hz⟩ : ∃ tg B1 n1 k1 B2 n2 k2, zNF = ⟨tg, B1, n1, k1, B2, n2, k2⟩ := ⟨_, _, _, _, _, _, _, rfl⟩
    rw [hz]
    have hz := Lib.hid hz
    simp only [NF.val]
    go_wp2_with (first | (refine wpList_store_arr rfl 25 (.tmp 5) (.tmp 11) rfl wc.heap.size 25 _ [.int .i64 tg, .slice B1 n1 k1, .slice B2 n2 k2] HZ.out rfl rfl (by kernel_rfl) rfl rfl ?_; intro w5 hB5 hT5; have H5 := Lib.hid (And.intro hB5 (And.intro ((HC.out.1.alloc (.cells #[.int .i64 0, .slice none 0 0, .slice none 0 0] 25)).turn hT5 (by have := HC.out.1.lt; simp; omega)) (below_turn (HC.out.2.1.alloc HC.out.2.1.size (.cells #[.int .i64 0, .slice none 0 0, .slice none 0 0] 25)) hT5 (fun t ht => by simp at ht; subst ht; exact HC.out.2.1.size) (by have := HC.out.2.1.size; simp; omega)))); have y0 := hB5.cell 0; have y1 := hB5.cell 1; have y2 := hB5.cell 2; simp only [List.getElem?_toArray, List.getElem?_cons_succ, List.getElem?_cons_zero] at y0 y1 y2; have HT5 := Lib.hid hT5; clear hB5 hT5) | (refine wpList_store_arr rfl 25 (.tmp 2) (.tmp 25) rfl X 25 _ [.int .i64 0, .slice none 0 0, .slice none 0 0] H5.out.2.1 rfl rfl (by kernel_rfl) rfl rfl ?_; intro w9 hB9 hT9; have H9 := Lib.hid (And.intro hB9 hT9); clear hB9 hT9))
    refine bodyPost_ret (node_res (f := zNF) rfl rfl H9.out.1) rfl ?_
    rw [HA2.out]
    have hb9 : Below w.heap.size w w9 := below_turn H5.out.2.2 H9.out.2 (fun t ht => by simp at ht; omega) H5.out.2.2.size
    exact ⟨rfl, by first | exact hb9 | (rw [← hX]; exact hb9)⟩
  | some x =>
    obtain ⟨n, rest⟩ := x
    rw [hq] at hp
    obtain ⟨⟨tg, B1, n1, k1, B2, n2, k2⟩, rfl, hN⟩ := hp
    obtain ⟨e1, e2⟩ := dec_some 16 b n rest hq
    have hrd := rdO_some hq
    rw [HANS.out] at hrd
    have hle := congrArg List.length e1
    rw [List.length_append] at hle
    obtain ⟨u, hu⟩ : ∃ u, n.enc.length = u := ⟨_, rfl⟩
    have hul : u ≤ 1000000 := by have := hmb.out; omega
    have HN := Lib.hid (And.intro hN (And.intro hrd (And.intro hu e2)))
    rw [hu]
    clear hN hrd e1 e2 hle hu
    simp only [NF.val]
    by_cases h6 : 65536 < u
    · have t1 : (65536 : Int) < u := by omega
      have t1d : decide ((65536 : Int) < (u : Int)) = true := decide_eq_true t1
      have HA2 := Lib.hid (HN.out.2.1.trans (if_neg (by have := HN.out.2.2.1; omega)))
      go_wp2_with (first | (refine wpList_store_arr rfl 25 (.tmp 5) (.tmp 11) rfl wc.heap.size 25 _ [.int .i64 tg, .slice B1 n1 k1, .slice B2 n2 k2] HZ.out rfl rfl (by kernel_rfl) rfl rfl ?_; intro w5 hB5 hT5; have H5 := Lib.hid (And.intro hB5 (And.intro ((HC.out.1.alloc (.cells #[.int .i64 0, .slice none 0 0, .slice none 0 0] 25)).turn hT5 (by have := HC.out.1.lt; simp; omega)) (below_turn (HC.out.2.1.alloc HC.out.2.1.size (.cells #[.int .i64 0, .slice none 0 0, .slice none 0 0] 25)) hT5 (fun t ht => by simp at ht; subst ht; exact HC.out.2.1.size) (by have := HC.out.2.1.size; simp; omega)))); have y0 := hB5.cell 0; have y1 := hB5.cell 1; have y2 := hB5.cell 2; simp only [List.getElem?_toArray, List.getElem?_cons_succ, List.getElem?_cons_zero] at y0 y1 y2; have HT5 := Lib.hid hT5; clear hB5 hT5) | (refine wpList_store_arr rfl 25 (.tmp 2) (.tmp 25) rfl X 25 _ [.int .i64 0, .slice none 0 0, .slice none 0 0] H5.out.2.1 rfl rfl (by kernel_rfl) rfl rfl ?_; intro w9 hB9 hT9; have H9 := Lib.hid (And.intro hB9 hT9); clear hB9 hT9))
      refine bodyPost_ret (node_res (f := zNF) rfl rfl H9.out.1) rfl ?_
      rw [HA2.out]
      have hb9 : Below w.heap.size w w9 := below_turn H5.out.2.2 H9.out.2 (fun t ht => by simp at ht; omega) H5.out.2.2.size
      exact ⟨rfl, by first | exact hb9 | (rw [← hX]; exact hb9)⟩
    · have t1 : ¬ (65536 : Int) < u := by omega
      have t1d : decide ((65536 : Int) < (u : Int)) = false := decide_eq_false t1
      have hwm : ∀ w5, Turn [wc.heap.size] (wc.alloc (.cells #[.int .i64 0, .slice none 0 0, .slice none 0 0] 25)) w5 → NdR (fun b => wA.heap.size ≤ b ∧ b < wc.heap.size) NB w5 ⟨tg, B1, n1, k1, B2, n2, k2⟩ n ∧ wc.heap.size + 1 ≤ w5.heap.size := fun w5 hT => by
        have hs := hT.size
        simp at hs
        refine ⟨HN.out.1.keep (by omega) (fun b hb => (hT.block b (by have := hb.2; simp; omega) (by have := hb.2; simp; omega)).trans (Below.heap_alloc wc _ b hb.2)), hs⟩
      have HWM := Lib.hid hwm
      clear hwm
      go_wp2_with (refine wpList_store_arr rfl 25 (.tmp 5) (.tmp 11) rfl wc.heap.size 25 _ [.int .i64 tg, .slice B1 n1 k1, .slice B2 n2 k2] HZ.out rfl rfl (by kernel_rfl) rfl rfl ?_; intro w5 hB5 hT5; have H5 := Lib.hid (And.intro hB5 (And.intro ((HC.out.1.alloc (.cells #[.int .i64 0, .slice none 0 0, .slice none 0 0] 25)).turn hT5 (by have := HC.out.1.lt; simp; omega)) (below_turn (HC.out.2.1.alloc HC.out.2.1.size (.cells #[.int .i64 0, .slice none 0 0, .slice none 0 0] 25)) hT5 (fun t ht => by simp at ht; subst ht; exact HC.out.2.1.size) (by have := HC.out.2.1.size; simp; omega)))); have y0 := hB5.cell 0; have y1 := hB5.cell 1; have y2 := hB5.cell 2; simp only [List.getElem?_toArray, List.getElem?_cons_succ, List.getElem?_cons_zero] at y0 y1 y2; have HT5 := Lib.hid hT5; clear hB5 hT5; obtain ⟨hN5, hs5⟩ := HWM.out w5 HT5.out; have hmay := refMay_any _ NB n ⟨tg, B1, n1, k1, B2, n2, k2⟩ w5 hN5 (fun b hb => by have := hb.2; omega); simp only [NF.val] at hmay; have HN5 := Lib.hid (And.intro hN5 hs5); clear hN5 hs5)
      refine hmay.mono ?_
      rintro e w6 ⟨rfl, hb6⟩
      clear hmay
      obtain ⟨mv, hmv⟩ : ∃ mv, n.may = mv := ⟨_, rfl⟩
      rw [hmv]
      have HMV := Lib.hid hmv
      clear hmv
      have q0 := (H5.out.1.below hb6).cell 0
      have q1 := (H5.out.1.below hb6).cell 1
      have q2 := (H5.out.1.below hb6).cell 2
      simp only [List.getElem?_toArray, List.getElem?_cons_succ, List.getElem?_cons_zero] at q0 q1 q2
      have H6 := Lib.hid (And.intro (H5.out.2.1.below hb6) (And.intro (H5.out.2.2.trans (hb6.mono H5.out.2.2.size)) hb6))
      clear hb6
      cases mv with
      | false =>
        have HA2 := Lib.hid (HN.out.2.1.trans (if_neg (fun hh => by
          have h9 := HMV.out
          unfold Nd.may at h9
          rw [HN.out.2.2.2, decide_eq_true hh.1] at h9
          cases h9)))
        go_wp2_with ((refine wpList_store_arr rfl 25 (.tmp 2) (.tmp 25) rfl X 25 _ [.int .i64 0, .slice none 0 0, .slice none 0 0] H6.out.1 rfl rfl (by kernel_rfl) rfl rfl ?_; intro w9 hB9 hT9; have H9 := Lib.hid (And.intro hB9 hT9); clear hB9 hT9))
        refine bodyPost_ret (node_res (f := zNF) rfl rfl H9.out.1) rfl ?_
        rw [HA2.out]
        have hb9 : Below w.heap.size w w9 := below_turn H6.out.2.1 H9.out.2 (fun t ht => by simp at ht; omega) H6.out.2.1.size
        exact ⟨rfl, by first | exact hb9 | (rw [← hX]; exact hb9)⟩
      | true =>
        have HA2 := Lib.hid (HN.out.2.1.trans (if_pos (by
          have h9 := HMV.out
          unfold Nd.may at h9
          rw [Bool.and_eq_true] at h9
          exact ⟨of_decide_eq_true h9.2, by have := HN.out.2.2.1; omega⟩)))
        go_wp2_with (refine wpList_store_arr rfl 25 (.tmp 2) (.tmp 26) rfl X 25 _ [.int .i64 tg, .slice B1 n1 k1, .slice B2 n2 k2] H6.out.1 rfl rfl (by kernel_rfl) rfl rfl ?_; intro w9 hB9 hT9; have H9 := Lib.hid (And.intro hB9 hT9); clear hB9 hT9)
        refine bodyPost_ret (node_res (f := ⟨tg, B1, n1, k1, B2, n2, k2⟩) rfl rfl H9.out.1) rfl ?_
        rw [HA2.out]
        have hb9 : Below w.heap.size w w9 := below_turn H6.out.2.1 H9.out.2 (fun t ht => by simp at ht; omega) H6.out.2.1.size
        refine ⟨⟨⟨tg, B1, n1, k1, B2, n2, k2⟩, by rw [HN.out.2.2.1]; rfl, ?_⟩, by first | exact hb9 | (rw [← hX]; exact hb9)⟩
        have hAs := HB.out.2.2
        have hs6 := H6.out.2.2.size
        have hs9 := H9.out.2.size
        have hs5 := HN5.out.2
        refine (HN5.out.1.keep (by omega) (fun b hb => ?_)).mono (fun b hb => ⟨by have := hb.1; omega, by have := hb.2; omega⟩) (fun _ h => h)
        exact (H9.out.2.block b (by have := hb.2; omega) (by have := hb.1; simp; omega)).trans (H6.out.2.2.block b (by have := hb.2; omega))
end Go.Proofs.Ytgkhhinjdojbhaa
