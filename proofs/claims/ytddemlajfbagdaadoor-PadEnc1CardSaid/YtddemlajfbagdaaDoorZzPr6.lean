/-
  Pad, the document: PSS is made.
  Pad, the document: PSS is read.
-/
import Derived.Test.YtddemlajfbagdaaDoorZzPr4
import Derived.Test.YtddemlajfbagdaaDoorZzPd8
import Derived.StillTailTactics
namespace Go.Proofs.YtddemlajfbagdaaDoor
set_option maxRecDepth 100000
open Go.RowKit

def topI (i : Nat) : UInt8 := UInt8.ofNat (255 >>> i)
def bitI (i : Nat) : UInt8 := UInt8.ofNat (128 >>> i)
theorem top_step (x : UInt8) (i : Nat) (h : i < 8) : (x &&& topI i) &&& ~~~ bitI i = x &&& topI (i + 1) := by
  rw [UInt8.and_assoc]
  congr 1
  have hcase : i = 0 ∨ i = 1 ∨ i = 2 ∨ i = 3 ∨ i = 4 ∨ i = 5 ∨ i = 6 ∨ i = 7 := by omega
  rcases hcase with rfl | rfl | rfl | rfl | rfl | rfl | rfl | rfl <;> decide
theorem top_zero (x : UInt8) : x &&& topI 0 = x := all8 (P := fun x => x &&& topI 0 = x) (by decide +kernel) x
theorem shr_bit (i : Nat) (T : TypeId) (h8 : i < 8) : binOp .shr T (.int .u8 128) (.int .i64 (i : Int)) = pure (B (bitI i)) := by
  have h := shr_B T 128 .i64 i h8
  rw [show (B 128 : Value) = .int .u8 128 from rfl] at h
  rw [h]
  congr 2
  have hcase : i = 0 ∨ i = 1 ∨ i = 2 ∨ i = 3 ∨ i = 4 ∨ i = 5 ∨ i = 6 ∨ i = 7 := by omega
  rcases hcase with rfl | rfl | rfl | rfl | rfl | rfl | rfl | rfl <;> rfl
attribute [local go_sem] andNot_B
set_option maxHeartbeats 16000000 in
theorem rencp_any (kind bits : Int) (A1 A2 : Option Addr) (m1 c1 m2 c2 : Nat) (hash salt : List UInt8) (w : World) (h1 : Rd w A1 m1 c1 hash) (h2 : Rd w A2 m2 c2 salt) (hb : bits ≤ 1500 ∨ 65536 < bits) (hm2 : m2 ≤ 1000) :
    Calls Tryd.prog 21 #[.int .i64 kind, .int .i64 bits, .slice A1 m1 c1, .slice A2 m2 c2] w (PRes w (encPF kind bits hash salt)) := by
  have hl1 := h1.1
  have hl2 := h2.1
  have hps := rpss_any kind bits A1 m1 c1 m2 w
  unfold encPF
  rw [← hl1, ← hl2]
  by_cases d1 : (pssF kind bits m1 m2).2 = 0
  · rw [if_pos d1]
    obtain ⟨N, n, b, hN, hN1, hN64, hm1, rfl, hB1, hB2, hp, hn, hb8, hb9⟩ := pssF_ok kind bits m1 m2 d1
    rw [hp] at hps ⊢
    rw [hN, Int.toNat_natCast, Int.toNat_natCast, Int.toNat_natCast]
    have hn188 : n ≤ 188 := by omega
    have hki := hsize_in kind (by omega)
    obtain ⟨w1, hw1⟩ : ∃ w1, w.alloc (.cells (madeCells #[.int .u8 0] 8) 5) = w1 := ⟨_, rfl⟩
    have ho1 : Own w1 w.heap.size (.slice (some ⟨w.heap.size, 0, none⟩) 8 8) (zs 8) := by rw [← hw1]; exact Own.made w 8 (by decide)
    have hO1 : Old w w1 := by rw [← hw1]; exact (Old.refl w).alloc _
    obtain ⟨w2, hw2⟩ : ∃ w2, w1.alloc (.cells #[.slice (some ⟨w.heap.size, 0, none⟩) 8 8, .slice A1 m1 c1, .slice A2 m2 c2] 22) = w2 := ⟨_, rfl⟩
    have hO2' : Old w1 w2 := by rw [← hw2]; exact (Old.refl w1).alloc _
    have hO2 : Old w w2 := Old.trans hO1 hO2'
    have hJ := join_any (some ⟨w1.heap.size, 0, none⟩) 3 3 [zs 8, hash, salt] w2 (rd_three (by rw [← hw2]; exact Blk.new _ _ _) (ho1.rd.below hO2') (h1.below hO2) (h2.below hO2)) (by simp [zs_len]; omega)
    obtain ⟨HV, hHV⟩ : ∃ H, pssH (rof kind) hash salt = H := ⟨_, rfl⟩
    obtain ⟨JL, hJL⟩ : ∃ J, [zs 8, hash, salt].flatten = J := ⟨_, rfl⟩
    have hJ2 : List.replicate 8 0 ++ hash ++ salt = JL := by rw [← hJL]; simp [zs]
    rw [hJL] at hJ
    have hJl : JL.length ≤ 2000 := by rw [← hJ2]; simp; omega
    have hof := fun A m c W (hr : Rd W A m c JL) => rof_res_all kind A m c JL W hr (by omega)
    rw [show rof kind JL = HV by rw [← hJ2]; exact hHV] at hof
    have hHl : HV.length = N := by rw [← hHV]; unfold pssH; rw [rof_len kind hki _ (by simp; omega), hN]; rfl
    obtain ⟨b7, hb7⟩ : ∃ x, (b : Int) + 7 = x := ⟨_, rfl⟩
    have hb7w : IntKind.i64.wrap b7 = b7 := IntWalk.i64_in _ (by omega)
    have hnt : Int.tdiv b7 8 = (n : Int) := by rw [Int.tdiv_eq_ediv_of_nonneg (by omega)]; omega
    have hnw : IntKind.i64.wrap (n : Int) = (n : Int) := IntWalk.i64_in _ (by omega)
    obtain ⟨a1, ha1⟩ : ∃ a, (n : Int) - (m2 : Int) = a := ⟨_, rfl⟩
    have ha1w : IntKind.i64.wrap a1 = a1 := IntWalk.i64_in _ (by omega)
    obtain ⟨a2, ha2⟩ : ∃ a, a1 - (N : Int) = a := ⟨_, rfl⟩
    have ha2w : IntKind.i64.wrap a2 = a2 := IntWalk.i64_in _ (by omega)
    obtain ⟨lI, hlI⟩ : ∃ a, a2 - 2 = a := ⟨_, rfl⟩
    have hlIw : IntKind.i64.wrap lI = lI := IntWalk.i64_in _ (by omega)
    obtain ⟨k, hk⟩ := Int.eq_ofNat_of_zero_le (show 0 ≤ lI by omega)
    obtain ⟨e8, he8⟩ : ∃ a, 8 * (n : Int) = a := ⟨_, rfl⟩
    have he8w : IntKind.i64.wrap e8 = e8 := IntWalk.i64_in _ (by omega)
    obtain ⟨t, ht⟩ : ∃ t, 8 * n - b = t := ⟨_, rfl⟩
    have ht8 : t < 8 := by omega
    have htp : topB b n = topI t := by unfold topB topI; rw [ht]
    have he8t : e8 = (b : Int) + t := by omega
    have hmk8 : ∀ w : World, (Instr.makeSlice 22 (.int .i64 8) (.int .i64 8)).run Tryd.prog w = .ok (.slice (some ⟨w.heap.size, 0, none⟩) 8 8) (w.alloc (.cells (madeCells #[.int .u8 0] 8) 5)) := Tryd.prog_make 8 (by omega)
    have hkN : k = n - N - 2 - salt.length := by omega
    have hall : N + k + m2 + 2 = n := by omega
    have hT : encP N (rof kind) (mask kind) b n hash salt = headAnd (xorB ((zs k ++ [1]) ++ salt) (mask kind HV (k + 1 + m2))) (topI t) ++ HV ++ [188] := by
      unfold encP
      rw [hHV, htp]
      have hdb : pssDb N n salt = (zs k ++ [1]) ++ salt := by unfold pssDb zs; rw [← hkN]; simp
      rw [hdb]
      have hdl : ((zs k ++ [1]) ++ salt).length = k + 1 + m2 := by simp only [List.length_append, zs_len, List.length_singleton]; omega
      rw [hdl]
    rw [hT]
    obtain ⟨TT, hTT⟩ : ∃ T, headAnd (xorB ((zs k ++ [1]) ++ salt) (mask kind HV (k + 1 + m2))) (topI t) ++ HV ++ [188] = T := ⟨_, rfl⟩
    rw [hTT]
    have HTT0 := Lib.hid hTT
    clear hTT
    have hbb : b ≤ 1500 := by omega
    have HS := Lib.hid (And.intro hps (And.intro hJ (And.intro h2 (And.intro hO2 (And.intro hof (And.intro hki hk))))))
    have HA := Lib.hid (And.intro hall (And.intro hn188 (And.intro hl2 (And.intro hHl (And.intro hN1 (And.intro hN64 (And.intro ht8 (And.intro he8t hbb))))))))
    clear hps hJ h1 h2 hHl hO1 hO2 hO2' ho1 hN hki hN1 hN64 hm1 hB1 hB2 hp hn hb8 hb9 hn188 hl1 hl2 hb hm2 d1 hHV hT hall hkN htp hof hJl hJ2 hJL ht ht8 he8t hk
    go_enter Tryd.func21, Tryd.ntmps21
    go_wp2_with fail
    refine HS.out.1.mono ?_
    rintro e w' ⟨rfl, rfl⟩
    go_wp2_with fail
    refine HS.out.2.1.mono ?_
    rintro e w3 ⟨v, rfl, hO3, hB3⟩
    obtain ⟨A3, c3, rfl, hr3, _⟩ := hO3.shape
    have H3 := Lib.hid (And.intro hr3 (show Old w w3 from Old.trans HS.out.2.2.2.1 hB3))
    clear hO3 hr3 hB3 hw1 hw2
    go_wp2_with fail
    refine (HS.out.2.2.2.2.1 _ _ _ w3 H3.out.1).mono ?_
    rintro e w4 ⟨A4, n4, c4, rfl, hR4, hB4⟩
    have hn4 := hR4.len
    rw [HA.out.2.2.2.1] at hn4
    obtain rfl : N = n4 := hn4.symm
    clear hn4
    have H4 := Lib.hid (And.intro hR4.rd (show Old w w4 from Old.trans H3.out.2 hB4))
    clear hR4 hB4
    go_wp2_with fail
    go_loopw [13] (fun v wr => ∃ (A' : Option Addr) (n' c' j : Nat), v = .slice A' n' c' ∧ Own wr w4.heap.size (.slice A' n' c') (zs j) ∧ n' = j ∧ j ≤ k ∧ Old w4 wr) (fun v _ => match v with | .slice _ n _ => k - n | _ => 0)
    case atStart => exact ⟨none, 0, 0, 0, rfl, Own.nil _ _, rfl, Nat.zero_le _, Old.refl _⟩
    case round =>
      obtain ⟨A', n', c', j, rfl, hO, hn', hj, hW⟩ := hrel
      by_cases hlt : j < k
      · have hd : decide ((n' : Int) < lI) = true := decide_eq_true (by have := HS.out.2.2.2.2.2.2; omega)
        have hdi : (n' : Int) < lI := by have := HS.out.2.2.2.2.2.2; omega
        have HG := Lib.hid (And.intro hO (And.intro hW (And.intro hlt hn')))
        clear hO hW hlt hn' hj
        go_wp2_with (at_builtin; refine wp_app_lit (.tmp 46) (.tmp 47) w4.heap.size _ _ HG.out.1 HG.out.2.1.size [0] (by have := HG.out.2.2; have := HA.out; simp [zs_len]; omega) (by simp) rfl rfl rfl rfl rfl rfl ?_; intro A5 n5 c5 w5 hn5 hG5; have H5 := Lib.hid (And.intro hG5.own (And.intro (show Old w4 w5 from Below.trans (HG.out.2.1.alloc _) hG5.below) hG5.len)); clear hG5)
        go_roundw
        case rel => exact ⟨A5, n5, c5, j + 1, rfl, by have := H5.out.1; unfold zs at this ⊢; rwa [← List.replicate_succ'] at this, by rw [H5.out.2.2]; simp only [List.length_append, zs_len, List.length_singleton], HG.out.2.2.1, H5.out.2.1⟩
        case measure => have h5 := H5.out.2.2; have h6 := HG.out.2.2; simp only [List.length_append, zs_len, List.length_singleton] at h5; simp; omega
      · obtain rfl : j = k := by omega
        have hd : decide ((n' : Int) < lI) = false := decide_eq_false (by have := HS.out.2.2.2.2.2.2; omega)
        have hdi : ¬ (n' : Int) < lI := by have := HS.out.2.2.2.2.2.2; omega
        have HG := Lib.hid (And.intro hO (And.intro hW hn'))
        clear hO hW hlt hn' hj
        go_wp2_with (first | (at_builtin; refine wp_app_lit (.tmp 49) (.tmp 50) w4.heap.size _ _ HG.out.1 HG.out.2.1.size [1] (by have := HA.out; simp [zs_len]; omega) (by simp) rfl rfl rfl rfl rfl rfl ?_; intro A5 n5 c5 w5 hn5 hG5; have H5 := Lib.hid (And.intro hG5.own (show Old w4 w5 from Below.trans (HG.out.2.1.alloc _) hG5.below)); clear hG5) | (at_builtin; refine wp_app2 (.tmp 52) (.tmp 53) w4.heap.size (.slice A5 n5 c5) _ H5.out.1 H5.out.2.size A2 m2 c2 salt (HS.out.2.2.1.below (Old.trans H4.out.2 H5.out.2)) (by have h1 := HA.out; simp [zs_len]; omega) rfl rfl rfl rfl ?_; intro A7 n7 c7 w6 hn7 hG7; have H6 := Lib.hid (And.intro hG7.own (show Old w4 w6 from Below.trans H5.out.2 hG7.below)); clear hG7))
        have hn7l := H6.out.1.len
        have hdl : ((zs j ++ [1]) ++ salt).length = j + 1 + m2 := by rw [List.length_append, List.length_append, zs_len, ← HA.out.2.2.1]; rfl
        rw [hdl] at hn7l
        clear hdl
        clear hn7
        have hD7 : j + 1 + m2 ≤ 200 := by have := HA.out; omega
        have hki := HS.out.2.2.2.2.2.1
        have hmk1 : maskAll kind HV ((j + 1 + m2 : Nat) : Int) = mask kind HV (j + 1 + m2) := by unfold maskAll; rw [if_pos ⟨hki, by omega, by omega⟩, Int.toNat_natCast]
        have hml := mask_len kind hki HV (by have := HA.out; omega) (j + 1 + m2)
        have hn7 := hn7l.symm
        clear hn7l
        rw [hn7] at hD7 hmk1 hml
        have HN := Lib.hid (And.intro hn7 (And.intro hD7 (And.intro hml (show 1 ≤ n7 by omega))))
        have hmg := rmgf1_all kind (n7 : Int) A4 N c4 HV w6 (H4.out.1.below H6.out.2) (by have := HA.out; omega)
        rw [hmk1] at hmg
        obtain ⟨MK, hMK⟩ : ∃ M, mask kind HV n7 = M := ⟨_, rfl⟩
        obtain ⟨DB, hDB⟩ : ∃ D, zs j ++ [1] ++ salt = D := ⟨_, rfl⟩
        rw [hMK] at HN hmg
        rw [hDB] at H6
        have HTT := HTT0
        rw [hn7, hMK, hDB] at HTT
        clear HTT0 hn7 hD7 hml hmk1 hMK hDB hki
        refine hmg.mono ?_
        clear hmg
        rintro e w7 ⟨A8, n8, c8, rfl, hR8, hB8⟩
        have hn8 := hR8.1
        rw [HN.out.2.2.1] at hn8
        have H8 := Lib.hid (And.intro hR8 (And.intro (show Old w4 w7 from Old.trans H6.out.2 hB8) (And.intro (H6.out.1.rd.below hB8) hn8)))
        clear hR8 hB8 hn8
        go_wp2_with fail
        refine (rxor8_any A7 A8 n7 c7 n8 c8 DB MK w7 H8.out.2.2.1 H8.out.1 (by rw [H8.out.2.2.2]; exact Nat.le_refl _) (by have := HN.out.2.1; omega)).mono ?_
        rintro e w8 ⟨rfl, hO8, hB8⟩
        obtain ⟨XL, hXL⟩ : ∃ X, xorB DB MK = X := ⟨_, rfl⟩
        rw [hXL] at hO8 HTT
        have hX8 : XL.length = n7 := hO8.len.symm
        clear hXL
        cases XL with
        | nil => exact absurd hX8 (by have := HN.out.2.2.2; simp only [List.length_nil]; omega)
        | cons x0 xr =>
          clear hX8
          obtain ⟨g, hg⟩ : ∃ g, w7.heap.size = g := ⟨_, rfl⟩
          rw [hg] at hO8 hB8 ⊢
          have H9 := Lib.hid (And.intro hO8 (And.intro (show Old w4 w8 from Old.trans H8.out.2.1 (by show Below w7.heap.size w7 w8; rw [hg]; exact hB8)) hg))
          clear hO8 hB8 hg
          have h0m : 0 < n7 := HN.out.2.2.2
          go_wp2_with fail
          go_loopw [15] (fun kv wr => ∃ (kI : Int) (i : Nat), kv = .int .i64 kI ∧ kI = (b : Int) + i ∧ i ≤ t ∧ Own wr g (.slice (some ⟨g, 0, none⟩) n7 n7) ((x0 &&& topI i) :: xr) ∧ Turn [g] w8 wr) (fun kv _ => match kv with | .int _ kI => (e8 - kI).toNat | _ => 0)
          case atStart => exact ⟨_, 0, rfl, by simp, Nat.zero_le _, by rw [top_zero]; exact H9.out.1, Turn.refl _ _⟩
          case round =>
            obtain ⟨kI, i, rfl, hkI, hi, hO, hT⟩ := hrel
            have hx8 := HA.out.2.2.2.2.2.2.1
            have hxe := HA.out.2.2.2.2.2.2.2.1
            by_cases hlt : i < t
            · have hd2 : decide (kI < e8) = true := decide_eq_true (by omega)
              have hd2i : kI < e8 := by omega
              have hki2 : kI - (b : Int) = (i : Int) := by omega
              have hiw : IntKind.i64.wrap (i : Int) = (i : Int) := IntWalk.i64_in _ (by omega)
              obtain ⟨kJ, hkJ⟩ : ∃ kJ, kI + 1 = kJ := ⟨_, rfl⟩
              have hkJw : IntKind.i64.wrap kJ = kJ := IntWalk.i64_in _ (by omega)
              have hshr := fun T => shr_bit i T (by omega)
              obtain ⟨bt, hbt⟩ : ∃ x, bitI i = x := ⟨_, rfl⟩
              rw [hbt] at hshr
              have hstep := top_step x0 i (by omega)
              rw [hbt] at hstep
              obtain ⟨x1, hx1⟩ : ∃ x, x0 &&& topI i = x := ⟨_, rfl⟩
              rw [hx1] at hO hstep
              have yq := hO.cell 0 x1 rfl
              have fq := hO.frozen 0
              have HG2 := Lib.hid (And.intro hO (And.intro hT (And.intro hlt (And.intro hkI hstep))))
              clear hO hT hlt hkI hi hx8 hxe hstep hx1 hbt
              go_wp2_with fail
              refine region_oldZ 10 (by kernel_rfl) (fun wd hHeld hSz => ?_)
              have HSz := Lib.hid hSz
              clear hSz
              have hOd := hHeld
              refine takeZ (z := 10) (by kernel_rfl) (i := 0) (v := ?_) rfl (by kernel_rfl) (by kernel_rfl) (by kernel_rfl) (fun _ _ _ h => h) (Or.inl ⟨by rfl, ?_⟩) hHeld ?_
              rotate_left
              focus (intro wq hSw; clear hSw; go_simp; try with_reducible rfl)
              try simp only [Act.put, List.setIfInBounds_toArray, List.set_cons_zero, List.set_cons_succ]
              refine takeZ (z := 10) (by kernel_rfl) (i := 1) (v := ?_) rfl (by kernel_rfl) (by kernel_rfl) (by kernel_rfl) (fun _ _ _ h => h) (Or.inl ⟨by rfl, ?_⟩) hHeld ?_
              rotate_left
              focus (intro wq hSw; clear hSw; go_simp; try with_reducible rfl)
              try simp only [Act.put, List.setIfInBounds_toArray, List.set_cons_zero, List.set_cons_succ]
              refine takeZ (z := 10) (by kernel_rfl) (i := 2) (v := ?_) rfl (by kernel_rfl) (by kernel_rfl) (by kernel_rfl) (fun _ _ _ h => h) (Or.inl ⟨by rfl, ?_⟩) hHeld ?_
              rotate_left
              focus (intro wq hSw; clear hSw; go_simp; try with_reducible rfl)
              try simp only [Act.put, List.setIfInBounds_toArray, List.set_cons_zero, List.set_cons_succ]
              refine takeZ (z := 10) (by kernel_rfl) (i := 3) (v := ?_) rfl (by kernel_rfl) (by kernel_rfl) (by kernel_rfl) (fun _ _ _ h => h) (Or.inl ⟨by rfl, ?_⟩) hHeld ?_
              rotate_left
              focus (intro wq hSw; have hy := (HG2.out.1.below hSw).cell 0 x1 rfl; clear hSw; go_simp; try with_reducible rfl)
              try simp only [Act.put, List.setIfInBounds_toArray, List.set_cons_zero, List.set_cons_succ]
              refine takeZ (z := 10) (by kernel_rfl) (i := 4) (v := ?_) rfl (by kernel_rfl) (by kernel_rfl) (by kernel_rfl) (fun _ _ _ h => h) (Or.inl ⟨by rfl, ?_⟩) hHeld ?_
              rotate_left
              focus (intro wq hSw; clear hSw; go_simp; try with_reducible rfl)
              try simp only [Act.put, List.setIfInBounds_toArray, List.set_cons_zero, List.set_cons_succ]
              refine takeZ (z := 10) (by kernel_rfl) (i := 5) (v := ?_) rfl (by kernel_rfl) (by kernel_rfl) (by kernel_rfl) (fun _ _ _ h => h) (Or.inl ⟨by rfl, ?_⟩) hHeld ?_
              rotate_left
              focus (intro wq hSw; clear hSw; go_simp; try with_reducible rfl)
              try simp only [Act.put, List.setIfInBounds_toArray, List.set_cons_zero, List.set_cons_succ]
              refine takeZ (z := 10) (by kernel_rfl) (i := 6) (v := ?_) rfl (by kernel_rfl) (by kernel_rfl) (by kernel_rfl) (fun _ _ _ h => h) (Or.inl ⟨by rfl, ?_⟩) hHeld ?_
              rotate_left
              focus (intro wq hSw; clear hSw; go_simp; try with_reducible rfl)
              try simp only [Act.put, List.setIfInBounds_toArray, List.set_cons_zero, List.set_cons_succ]
              refine takeZ (z := 10) (by kernel_rfl) (i := 7) (v := ?_) rfl (by kernel_rfl) (by kernel_rfl) (by kernel_rfl) (fun _ _ _ h => h) (Or.inl ⟨by rfl, ?_⟩) hHeld ?_
              rotate_left
              focus (intro wq hSw; clear hSw; go_simp; try with_reducible rfl)
              try simp only [Act.put, List.setIfInBounds_toArray, List.set_cons_zero, List.set_cons_succ]
              refine takeZ (z := 10) (by kernel_rfl) (i := 8) (v := ?_) rfl (by kernel_rfl) (by kernel_rfl) (by kernel_rfl) (fun _ _ _ h => h) (Or.inl ⟨by rfl, ?_⟩) hHeld ?_
              rotate_left
              focus (intro wq hSw; clear hSw; go_simp; try with_reducible rfl)
              try simp only [Act.put, List.setIfInBounds_toArray, List.set_cons_zero, List.set_cons_succ]
              refine takeZ (z := 10) (by kernel_rfl) (i := 9) (v := ?_) rfl (by kernel_rfl) (by kernel_rfl) (by kernel_rfl) (fun _ _ _ h => h) (Or.inl ⟨by rfl, ?_⟩) hHeld ?_
              rotate_left
              focus (intro wq hSw; clear hSw; go_simp; try with_reducible rfl)
              try simp only [Act.put, List.setIfInBounds_toArray, List.set_cons_zero, List.set_cons_succ]
              refine wpAnyT_ready (rs := [10]) (by kernel_rfl) (by simp) ?_
              refine consZl rfl (fun K hK => ?_) AllReadyT.nil
              have hy := (HG2.out.1.below hOd).frozen 0
              have hy0 := (HG2.out.1.below hOd).cell 0 x1 rfl
              go_simp
              refine hK.out _ _ ?_
              clear hK K
              try simp only [Act.put, List.setIfInBounds_toArray, List.set_cons_zero, List.set_cons_succ]
              refine wpAnyT_done (by kernel_rfl) ?_ _
              refine NoPanic.normal ?_
              try simp only [Exit.then]
              have ho8 := (HG2.out.1.below hOd).set_ 0 (x1 &&& ~~~ bt) h0m
              have hT8 := ((Turn.refl [g] wd).setCell (p := ⟨g, 0, none⟩) (.inl (by simp)) (B (x1 &&& ~~~ bt)))
              obtain ⟨w9, hw9⟩ : ∃ w9, wd.setCell ⟨g, 0, none⟩ (B (x1 &&& ~~~ bt)) = w9 := ⟨_, rfl⟩
              rw [hw9] at ho8 hT8
              have H10 := Lib.hid (And.intro (show Own w9 g (.slice (some ⟨g, 0, none⟩) n7 n7) ((x1 &&& ~~~ bt) :: xr) from ho8) (show Turn [g] w8 w9 from Turn.trans (Turn.trans HG2.out.2.1 (Turn.of_below [] hOd) (by simp)) hT8 (fun x hx => .inl hx)))
              clear ho8 hT8 hHeld hOd HSz yq fq hy hy0
              try simp only [Exit.then]
              rw [hw9]
              clear hw9
              go_wp2_with fail
              go_roundw
              case rel => exact ⟨_, i + 1, rfl, by have := HG2.out.2.2.2.1; omega, HG2.out.2.2.1, by rw [← HG2.out.2.2.2.2]; exact H10.out.1, H10.out.2⟩
              case measure => have := HG2.out.2.2.2.1; simp; omega
            · obtain rfl : i = t := by omega
              have hd2 : decide (kI < e8) = false := decide_eq_false (by omega)
              have hd2i : ¬ kI < e8 := by omega
              have HG2 := Lib.hid (And.intro hO (And.intro hT hkI))
              clear hO hT hkI hi hx8 hxe hlt
              go_wp2_with fail
              obtain ⟨w11, hw11⟩ : ∃ w11, wr.alloc (.cells #[.int .u8 188] 5) = w11 := ⟨_, rfl⟩
              have hr11 : Rd w11 (some ⟨wr.heap.size, 0, none⟩) 1 1 [188] := by rw [← hw11]; exact (own_new wr [188] _ 1 rfl rfl (by decide)).rd
              have hb11 : Old wr w11 := by rw [← hw11]; exact (Old.refl wr).alloc _
              obtain ⟨w12, hw12⟩ : ∃ w12, w11.alloc (.cells #[.slice (some ⟨g, 0, none⟩) n7 n7, .slice A4 N c4, .slice (some ⟨wr.heap.size, 0, none⟩) 1 1] 22) = w12 := ⟨_, rfl⟩
              have hb12 : Old w11 w12 := by rw [← hw12]; exact (Old.refl w11).alloc _
              have hs11 : w11.heap.size = wr.heap.size + 1 := by rw [← hw11]; exact Array.size_push ..
              have hO12 : Old wr w12 := Old.trans hb11 hb12
              have hg4 : w4.heap.size ≤ g := by have h1 := H9.out.2.2; have h2 := H8.out.2.1.size; omega
              have hOr : Old w4 wr := below_turn H9.out.2.1 HG2.out.2.1 (fun x hx => by simp at hx; rw [hx]; exact hg4) H9.out.2.1.size
              have hPP : PartsAt w12 (some ⟨w11.heap.size, 0, none⟩) 3 3 [(x0 &&& topI i) :: xr, HV, [188]] := rd_three (by rw [← hw12]; exact Blk.new _ _ _) (HG2.out.1.rd.below hO12) ((H4.out.1.below hOr).below hO12) (hr11.below hb12)
              have hlen : ([(x0 &&& topI i) :: xr, HV, [188]] : List (List UInt8)).flatten.length ≤ 140737488355000 := by
                have h1 := HG2.out.1.len
                have h2 := HN.out.2.1
                have h3 := HA.out.2.2.2.1
                have h4 := HA.out.2.2.2.2.2.1
                simp only [List.flatten_cons, List.flatten_nil, List.length_append, List.length_nil, List.length_singleton, List.length_cons] at h1 ⊢
                omega
              have HJ := Lib.hid (And.intro (join_any _ 3 3 _ w12 hPP hlen) (Old.trans (Old.trans H4.out.2 hOr) hO12))
              rw [hs11] at HJ
              clear hr11 hb11 hb12 hO12 hPP hlen hg4 hOr hs11
              rw [hw11, hw12]
              refine HJ.out.1.mono ?_
              rintro e w13 ⟨v, rfl, hO13, hB13⟩
              obtain ⟨A13, c13, rfl, hr13, _⟩ := hO13.shape
              have H13 := Lib.hid (And.intro hr13 (Old.trans HJ.out.2 hB13))
              clear hO13 hr13 hB13 hw11 hw12
              go_wp2_with fail
              refine bodyPost_ret (results_tmp2 rfl _ _ _) rfl ?_
              refine ⟨_, _, _, rfl, ?_, H13.out.2⟩
              have := H13.out.1
              show Rd _ _ _ _ TT
              rw [← HTT.out]
              simpa [headAnd] using this
  · rw [if_neg d1]
    obtain ⟨a, r, hp⟩ : ∃ a r, pssF kind bits m1 m2 = (a, r) := ⟨_, _, rfl⟩
    rw [hp] at hps d1 ⊢
    have b1 : (r != 0) = true := by simpa using d1
    have HS := Lib.hid hps
    clear hps hp hl1 hl2 h1 h2
    go_enter Tryd.func21, Tryd.ntmps21
    go_wp2_with fail
    refine HS.out.mono ?_
    rintro e w' ⟨rfl, rfl⟩
    go_wp2_with fail
    refine bodyPost_ret (results_tmp2 rfl _ _ _) rfl ?_
    exact ⟨none, 0, 0, rfl, Rd.nil _, Old.refl _⟩
end Go.Proofs.YtddemlajfbagdaaDoor
namespace Go.Proofs.YtddemlajfbagdaaDoor
set_option maxRecDepth 100000
open Go.RowKit

theorem flatMap_len8 {α : Type} (f : α → List UInt8) (k : Nat) (hf : ∀ x, (f x).length = k) : ∀ l : List α, (l.flatMap f).length = l.length * k
  | [] => by simp
  | x :: l => by rw [List.flatMap_cons, List.length_append, flatMap_len8 f k hf l, hf, List.length_cons, Nat.succ_mul, Nat.add_comm]
theorem rof_len_all (kind : Int) (hk : 1 ≤ kind ∧ kind ≤ 5) (l : List UInt8) : (rof kind l).length = (hsize kind).toNat := by
  have hcase : kind = 1 ∨ kind = 2 ∨ kind = 3 ∨ kind = 4 ∨ kind = 5 := by omega
  rcases hcase with rfl | rfl | rfl | rfl | rfl
  · show (List.flatMap bytes32 _).length = 20
    rw [flatMap_len8 bytes32 4 (fun _ => rfl), rTo1_len _ _ _ rfl]
  · show (List.take 28 (List.flatMap bytes32 _)).length = 28
    rw [List.length_take, flatMap_len8 bytes32 4 (fun _ => rfl), rTosha256_len _ _ _ rfl]; rfl
  · show (List.flatMap bytes32 _).length = 32
    rw [flatMap_len8 bytes32 4 (fun _ => rfl), rTosha256_len _ _ _ rfl]
  · show (List.take 48 (List.flatMap bytes64 _)).length = 48
    rw [List.length_take, flatMap_len8 bytes64 8 (fun _ => rfl), rTosha512_len _ _ _ rfl]; rfl
  · show (List.flatMap bytes64 _).length = 64
    rw [flatMap_len8 bytes64 8 (fun _ => rfl), rTosha512_len _ _ _ rfl]
set_option maxHeartbeats 16000000 in
theorem rverp_any (kind bits s : Int) (A1 A3 : Option Addr) (m1 c1 m3 c3 : Nat) (hash em : List UInt8) (w : World) (h1 : Rd w A1 m1 c1 hash) (h3 : Rd w A3 m3 c3 em) (hb : bits ≤ 1500 ∨ 65536 < bits) :
    Calls Tryd.prog 23 #[.int .i64 kind, .int .i64 bits, .slice A1 m1 c1, .slice A3 m3 c3, .int .i64 s] w (BRes w (VerPF kind bits hash em s)) := by
  have hl1 := h1.1
  have hl3 := h3.1
  unfold VerPF
  rw [← hl1, ← hl3]
  by_cases d1 : s < 0
  · have b1 : decide (s < 0) = true := decide_eq_true d1
    refine bres_no (fun h => absurd h.1.1 (by omega)) ?_
    clear h1 h3 hl1 hl3 hb
    go_enter Tryd.func23, Tryd.ntmps23
    go_wp2_with fail
    go_ret
    exact ⟨rfl, Old.refl _⟩
  · have b1 : decide (s < 0) = false := decide_eq_false d1
    obtain ⟨sn, rfl⟩ := Int.eq_ofNat_of_zero_le (show 0 ≤ s by omega)
    rw [Int.toNat_natCast]
    have hps := rpss_any kind bits A1 m1 c1 sn w
    by_cases d3 : (pssF kind bits m1 sn).2 = 0
    · obtain ⟨N, n, b, hN, hN1, hN64, hm1, rfl, hB1, hB2, hp, hn, hb8, hb9⟩ := pssF_ok kind bits m1 sn d3
      rw [hp] at hps
      have hn188 : n ≤ 188 := by omega
      have hki := hsize_in kind (by omega)
      rw [hN, Int.toNat_natCast, Int.toNat_natCast, hp, Int.toNat_natCast]
      have hszc := fun W => rsize_any kind W
      simp only [hN] at hszc
      obtain ⟨b7, hb7⟩ : ∃ x, (b : Int) + 7 = x := ⟨_, rfl⟩
      have hb7w : IntKind.i64.wrap b7 = b7 := IntWalk.i64_in _ (by omega)
      obtain ⟨nI, hnI⟩ : ∃ x : Int, (n : Int) = x := ⟨_, rfl⟩
      have hnt : Int.tdiv b7 8 = nI := by rw [Int.tdiv_eq_ediv_of_nonneg (by omega)]; omega
      have hnw : IntKind.i64.wrap nI = nI := IntWalk.i64_in _ (by omega)
      by_cases d4 : m3 = n
      · have b4 : ((m3 : Int) != nI) = false := by rw [← hnI, d4]; simp
        obtain ⟨a1, ha1⟩ : ∃ a, nI - (N : Int) = a := ⟨_, rfl⟩
        have ha1w : IntKind.i64.wrap a1 = a1 := IntWalk.i64_in _ (by omega)
        obtain ⟨k, hk⟩ := Int.eq_ofNat_of_zero_le (show 0 ≤ a1 - 1 by omega)
        have hkw : IntKind.i64.wrap (k : Int) = (k : Int) := IntWalk.i64_in _ (by omega)
        obtain ⟨p, hp1⟩ : ∃ p, n - 1 = p := ⟨_, rfl⟩
        have hpi : nI - 1 = (p : Int) := by omega
        have hpw : IntKind.i64.wrap (p : Int) = (p : Int) := IntWalk.i64_in _ (by omega)
        obtain ⟨q, hq⟩ := Int.eq_ofNat_of_zero_le (show 0 ≤ (k : Int) - (sn : Int) by omega)
        have hqw : IntKind.i64.wrap (q : Int) = (q : Int) := IntWalk.i64_in _ (by omega)
        have hkn : n - N - 1 = k := by omega
        have hqn : n - N - 1 - sn = q := by omega
        have hvi := verP_iff N (rof kind) (mask kind) b n hash em sn
        obtain ⟨hS1, hR1⟩ := h3.cut_to (k := k) (by omega)
        obtain ⟨A5, c5, hS2, hR2⟩ := h3.cut_mid (k := k) (j := p) (d := N) (by omega) (by omega)
        rw [hqn, hkn] at hvi
        obtain ⟨VX, hVX⟩ : ∃ x, em.take k = x := ⟨_, rfl⟩
        obtain ⟨VH, hVH⟩ : ∃ x, (em.drop k).take N = x := ⟨_, rfl⟩
        rw [hVX] at hR1
        rw [hVH] at hR2
        rw [hVX, hVH] at hvi
        have hH := fun l => (rof_len_all kind hki l).trans (show (hsize kind).toNat = N by rw [hN]; rfl)
        have hM : ∀ s k, 1 ≤ k → k ≤ 65536 → s.length ≤ 1000 → (mask kind s k).length = k := fun s k _ _ hs => mask_len kind hki s hs k
        have hml := mask_len kind hki VH (by rw [← hR2.1]; omega) k
        have hmk1 : maskAll kind VH (k : Int) = mask kind VH k := by unfold maskAll; rw [if_pos ⟨hki, by omega, by omega⟩, Int.toNat_natCast]
        have hmg := fun W (hr : Rd W A5 N c5 VH) => rmgf1_all kind (k : Int) A5 N c5 VH W hr (by rw [← hR2.1]; omega)
        rw [hmk1] at hmg
        replace hvi := hvi hH hM (by omega) (by omega) (by omega) (by omega) (by omega) (by omega)
        obtain ⟨MK, hMK⟩ : ∃ M, mask kind VH k = M := ⟨_, rfl⟩
        rw [hMK] at hvi hml hmg
        have hDl := xorB_len VX MK (by rw [hml, ← hR1.1]; exact Nat.le_refl _)
        rw [← hR1.1] at hDl
        obtain ⟨DB, hDB⟩ : ∃ D, xorB VX MK = D := ⟨_, rfl⟩
        rw [hDB] at hvi hDl
        have hSl : (DB.drop q).length = sn := by rw [List.length_drop]; omega
        obtain ⟨SL, hSL⟩ : ∃ D, DB.drop q = D := ⟨_, rfl⟩
        rw [hSL] at hvi hSl
        have hec := fun A c W (hr : Rd W A1 m1 c1 hash) (hr2 : Rd W A sn c SL) => rencp_any kind (b : Int) A1 A m1 c1 sn c hash SL W hr hr2 hb (by omega)
        have hef : encPF kind (b : Int) hash SL = (encP N (rof kind) (mask kind) b n hash SL, 0) := by
          unfold encPF
          rw [← hl1, hSl, hp, if_pos rfl, hN]
          rfl
        rw [hef] at hec
        obtain ⟨EE, hEE⟩ : ∃ D, encP N (rof kind) (mask kind) b n hash SL = D := ⟨_, rfl⟩
        simp only [hEE] at hvi hec
        clear hef hEE
        refine bres_yes (EE == em) ?_ ?_
        · rw [beq_iff_eq]
          constructor
          · intro h
            exact ⟨⟨by omega, by omega⟩, rfl, d4, hvi.2 h⟩
          · intro h
            exact hvi.1 h.2.2.2
        have HS := Lib.hid (And.intro hps (And.intro hszc (And.intro hR1 (And.intro hR2 (And.intro hmg (And.intro hec (And.intro hml (And.intro h1 h3))))))))
        have HD := Lib.hid (And.intro hDB (And.intro hSL (And.intro hDl (show k ≤ 200 by omega))))
        clear hps hszc hR1 hR2 hmg hec hml hDB hSL hH hM hmk1 hvi hDl hSl hqn hkn hp hN hN1 hN64 hm1 hB1 hB2 hn hb8 hb9 hn188 hb hl1 hl3 h1 hki hVX hVH hMK hnI hp1 d3 d4 d1
        go_enter Tryd.func23, Tryd.ntmps23
        go_wp2_with fail
        refine HS.out.1.mono ?_
        rintro e w' ⟨rfl, rfl⟩
        go_wp2_with fail
        refine (HS.out.2.1 _).mono ?_
        rintro e w' ⟨rfl, rfl⟩
        go_wp2_with fail
        refine (HS.out.2.2.2.2.1 _ HS.out.2.2.2.1).mono ?_
        rintro e w2 ⟨A2, n2, c2, rfl, hR2, hB2⟩
        have hn2 := hR2.1
        rw [HS.out.2.2.2.2.2.2.1] at hn2
        subst hn2
        have H2 := Lib.hid (And.intro hR2 (show Old w w2 from hB2))
        clear hR2 hB2
        go_wp2_with fail
        refine (rxor8_any A3 A2 n2 c3 n2 c2 VX MK w2 (HS.out.2.2.1.below H2.out.2) H2.out.1 (Nat.le_refl _) (by have := HD.out.2.2.2; omega)).mono ?_
        rintro e w3 ⟨rfl, hO3, hB3⟩
        rw [HD.out.1] at hO3
        obtain ⟨A4, n4, c4, hn4, hc4, hR4, _⟩ := hO3.rd.cut_ex2 (k := q) (by omega)
        have hn4' : n4 = sn := by omega
        subst hn4'
        have H3 := Lib.hid (And.intro (show Rd w3 A4 n4 c4 SL by rw [← HD.out.2.1]; exact hR4) (show Old w w3 from Old.trans H2.out.2 hB3))
        clear hO3 hB3 hR4 hn4
        go_wp2_with fail
        refine (HS.out.2.2.2.2.2.1 _ _ w3 (HS.out.2.2.2.2.2.2.2.1.below H3.out.2) H3.out.1).mono ?_
        rintro e w4 ⟨A6, n6, c6, rfl, hR6, hB6⟩
        have hs1 := hR6.str
        have hs2 := (HS.out.2.2.2.2.2.2.2.2.below (Old.trans H3.out.2 hB6)).str
        have HO := Lib.hid (show Old w w4 from Old.trans H3.out.2 hB6)
        clear hR6 hB6
        go_wp2_with fail
        go_ret
        exact ⟨rfl, HO.out⟩
      · have b4 : ((m3 : Int) != nI) = true := by rw [← hnI]; simp; omega
        refine bres_no (fun h => absurd h.2.2.1 d4) ?_
        have HS := Lib.hid (And.intro hps hszc)
        clear h1 h3 hl1 hl3 hb hps hszc hN hN1 hN64 hm1 hB1 hB2 hp hn hb8 hb9 hn188 hki hnI d1 d3 d4
        go_enter Tryd.func23, Tryd.ntmps23
        go_wp2_with fail
        refine HS.out.1.mono ?_
        rintro e w' ⟨rfl, rfl⟩
        go_wp2_with fail
        refine (HS.out.2 _).mono ?_
        rintro e w' ⟨rfl, rfl⟩
        go_wp2_with fail
        go_ret
        exact ⟨rfl, Old.refl _⟩
    · obtain ⟨a, r, hp⟩ : ∃ a r, pssF kind bits m1 sn = (a, r) := ⟨_, _, rfl⟩
      rw [hp] at hps d3 ⊢
      have b3 : (r != 0) = true := by simpa using d3
      refine bres_no (fun h => absurd h.2.1 d3) ?_
      have HS := Lib.hid hps
      clear h1 h3 hl1 hl3 hb hps hp
      go_enter Tryd.func23, Tryd.ntmps23
      go_wp2_with fail
      refine HS.out.mono ?_
      rintro e w' ⟨rfl, rfl⟩
      go_wp2_with fail
      go_ret
      exact ⟨rfl, Old.refl _⟩
end Go.Proofs.YtddemlajfbagdaaDoor
