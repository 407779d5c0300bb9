/-
  The reference's Next.
-/
import Derived.Test.YtmanpfenmamflaaRpcB
import Derived.Test.YtmanpfenmamflaaAppK
import Derived.OwnWalk
namespace Go.Proofs.Ytmanpfenmamflaa
open Go.RowKit

theorem wrap64_u8 (x : UInt8) : wrap64 (x.toNat : Int) = (x.toNat : Int) := by
  have := x.toNat_lt
  unfold wrap64
  omega
theorem wb (x : UInt8) : IntKind.i64.wrap (x.toNat : Int) = (x.toNat : Int) := by have := x.toNat_lt; exact IntWalk.i64_in _ (by omega)
theorem wb24 (x : UInt8) : IntKind.i64.wrap ((x.toNat : Int) * 16777216) = (x.toNat : Int) * 16777216 := by have := x.toNat_lt; exact IntWalk.i64_in _ (by omega)
theorem wb16 (x : UInt8) : IntKind.i64.wrap ((x.toNat : Int) * 65536) = (x.toNat : Int) * 65536 := by have := x.toNat_lt; exact IntWalk.i64_in _ (by omega)
theorem wb8 (x : UInt8) : IntKind.i64.wrap ((x.toNat : Int) * 256) = (x.toNat : Int) * 256 := by have := x.toNat_lt; exact IntWalk.i64_in _ (by omega)
theorem be4 (x0 x1 x2 x3 : UInt8) (N : Nat) (hN : (((x0.toNat * 256 + x1.toNat) * 256 + x2.toNat) * 256 + x3.toNat) = N) : bits .or .i64 (bits .or .i64 (bits .or .i64 ((x0.toNat : Int) * 16777216) ((x1.toNat : Int) * 65536)) ((x2.toNat : Int) * 256)) (x3.toNat : Int) = (N : Int) ∧ N < 4294967296 := by
  subst hN
  have h0 := x0.toNat_lt
  have h1 := x1.toNat_lt
  have h2 := x2.toNat_lt
  have h3 := x3.toNat_lt
  rw [show (x0.toNat : Int) * 16777216 = ((x0.toNat * 16777216 : Nat) : Int) by omega, show (x1.toNat : Int) * 65536 = ((x1.toNat * 65536 : Nat) : Int) by omega, bits_or_i64 _ _ (by omega) (by omega)]
  rw [show x0.toNat * 16777216 = x0.toNat * 2 ^ 24 by omega, or_add x0.toNat _ 24 (by omega)]
  rw [show (x2.toNat : Int) * 256 = ((x2.toNat * 256 : Nat) : Int) by omega, bits_or_i64 _ _ (by omega) (by omega)]
  rw [show x0.toNat * 2 ^ 24 + x1.toNat * 65536 = (x0.toNat * 256 + x1.toNat) * 2 ^ 16 by omega, or_add _ _ 16 (by omega)]
  rw [bits_or_i64 _ _ (by omega) (by omega)]
  rw [show (x0.toNat * 256 + x1.toNat) * 2 ^ 16 + x2.toNat * 256 = ((x0.toNat * 256 + x1.toNat) * 256 + x2.toNat) * 2 ^ 8 by omega, or_add _ _ 8 (by omega)]
  exact ⟨rfl, by omega⟩
set_option maxHeartbeats 2000000 in
theorem rnext_any (A : Option Addr) (m c : Nat) (l : List UInt8) (w : World) (h : Rd w A m c l) (hl : l.length ≤ 1000000000) :
    Calls Try.prog 15 #[.slice A m c] w (NxRes w l) := by
  have hm := h.1
  have hmc := h.2.1
  have hcm := h.2.2.1
  unfold maxLen at hcm
  by_cases h4 : m < 4
  · have h4i : (m : Int) < 4 := by omega
    have h4d : decide ((m : Int) < 4) = true := decide_eq_true h4i
    have e1 : nxB l = [] := if_pos (by omega)
    have e2 : nxN l = 0 := if_pos (by omega)
    have e3 : nxK l = true := if_pos (by omega)
    unfold NxRes
    rw [e1, e2, e3]
    clear e1 e2 e3
    go_enter Try.func15, Try.ntmps15
    go_wp2_with fail
    go_ret3
    exact ⟨none, 0, 0, rfl, Own.nil _ _, Below.refl _ _⟩
  · have h4i : ¬ (m : Int) < 4 := by omega
    have h4d : decide ((m : Int) < 4) = false := decide_eq_false h4i
    obtain ⟨b, off, rfl, hat⟩ := h.addr (by omega)
    obtain ⟨N, hN⟩ : ∃ N, be (l.take 4) = N := ⟨_, rfl⟩
    obtain ⟨x0, x1, x2, x3, r, hlr⟩ : ∃ x0 x1 x2 x3 r, l = x0 :: x1 :: x2 :: x3 :: r := by
      match l, (show 4 ≤ l.length by omega) with
      | a :: b :: c :: d :: r, _ => exact ⟨a, b, c, d, r, rfl⟩
    have k0 := hat.2 0 x0 (by rw [hlr]; rfl)
    have k1 := hat.2 1 x1 (by rw [hlr]; rfl)
    have k2 := hat.2 2 x2 (by rw [hlr]; rfl)
    have k3 := hat.2 3 x3 (by rw [hlr]; rfl)
    rw [Nat.add_zero] at k0
    unfold B at k0 k1 k2 k3
    have hNx : (((x0.toNat * 256 + x1.toNat) * 256 + x2.toNat) * 256 + x3.toNat) = N := by
      rw [← hN, hlr]
      show _ = ((((0 * 256 + x0.toNat) * 256 + x1.toNat) * 256 + x2.toNat) * 256 + x3.toNat)
      omega
    obtain ⟨hbe, hNl⟩ := be4 x0 x1 x2 x3 N hNx
    have n0 : 0 < m := by omega
    have n1 : 1 < m := by omega
    have n2 : 2 < m := by omega
    have n3 : 3 < m := by omega
    have l0 : (0 : Int) < m := by omega
    have l1 : (1 : Int) < m := by omega
    have l2 : (2 : Int) < m := by omega
    have l3 : (3 : Int) < m := by omega
    have t0 := x0.toNat_lt
    have t1 := x1.toNat_lt
    have t2 := x2.toNat_lt
    have t3 := x3.toNat_lt
    have w0 := wrap64_u8 x0
    have w1 := wrap64_u8 x1
    have w2 := wrap64_u8 x2
    have w3 := wrap64_u8 x3
    have H := Lib.hid (And.intro h (And.intro hbe (And.intro hN (And.intro hm hat.1))))
    have HK := Lib.hid (And.intro k0 (And.intro k1 (And.intro k2 k3)))
    have e4 : ¬ l.length < 4 := by omega
    have He4 := Lib.hid e4
    clear hNx hlr hat k0 k1 k2 k3 hbe hN hm e4 h
    obtain ⟨bb, hbb⟩ : ∃ bb, nxB l = bb := ⟨_, rfl⟩
    obtain ⟨nn, hnn⟩ : ∃ nn, nxN l = nn := ⟨_, rfl⟩
    obtain ⟨kk, hkk⟩ : ∃ kk, nxK l = kk := ⟨_, rfl⟩
    unfold NxRes
    rw [hbb, hnn, hkk]
    have HE := Lib.hid (And.intro hbb (And.intro hnn hkk))
    clear hbb hnn hkk
    go_enter Try.func15, Try.ntmps15
    go_wp2_with fail
    refine region_old (by kernel_rfl) (fun wd hHeld hSz => ?_)
    have HSz := Lib.hid hSz
    clear hSz
    refine takeL (i := 0) (v := ?_) rfl (by kernel_rfl) (by kernel_rfl) (by kernel_rfl) (fun _ _ _ h => h) (Or.inl ⟨by rfl, ?_⟩) hHeld ?_
    rotate_left
    focus (intro wq hSw; clear hSw; go_simp; try with_reducible rfl)
    try simp only [Act.put, List.setIfInBounds_toArray, List.set_cons_zero, List.set_cons_succ]
    refine takeL (i := 1) (v := ?_) rfl (by kernel_rfl) (by kernel_rfl) (by kernel_rfl) (fun _ _ _ h => h) (Or.inl ⟨by rfl, ?_⟩) hHeld ?_
    rotate_left
    focus (intro wq hSw; clear hSw; go_simp; try with_reducible rfl)
    try simp only [Act.put, List.setIfInBounds_toArray, List.set_cons_zero, List.set_cons_succ]
    refine takeL (i := 2) (v := ?_) rfl (by kernel_rfl) (by kernel_rfl) (by kernel_rfl) (fun _ _ _ h => h) (Or.inl ⟨by rfl, ?_⟩) hHeld ?_
    rotate_left
    focus (intro wq hSw; have hcq := (Below.cell (p := ⟨b, off, none⟩) hSw H.out.2.2.2.2).trans HK.out.1; clear hSw; go_simp; try with_reducible rfl)
    try simp only [Act.put, List.setIfInBounds_toArray, List.set_cons_zero, List.set_cons_succ]
    refine takeL (i := 3) (v := ?_) rfl (by kernel_rfl) (by kernel_rfl) (by kernel_rfl) (fun _ _ _ h => h) (Or.inl ⟨by rfl, ?_⟩) hHeld ?_
    rotate_left
    focus (intro wq hSw; clear hSw; go_simp; try with_reducible rfl)
    try simp only [Act.put, List.setIfInBounds_toArray, List.set_cons_zero, List.set_cons_succ]
    refine takeL (i := 4) (v := ?_) rfl (by kernel_rfl) (by kernel_rfl) (by kernel_rfl) (fun _ _ _ h => h) (Or.inl ⟨by rfl, ?_⟩) hHeld ?_
    rotate_left
    focus (intro wq hSw; clear hSw; go_simp; try with_reducible rfl)
    try simp only [Act.put, List.setIfInBounds_toArray, List.set_cons_zero, List.set_cons_succ]
    refine takeL (i := 5) (v := ?_) rfl (by kernel_rfl) (by kernel_rfl) (by kernel_rfl) (fun _ _ _ h => h) (Or.inl ⟨by rfl, ?_⟩) hHeld ?_
    rotate_left
    focus (intro wq hSw; clear hSw; go_simp; try with_reducible rfl)
    try simp only [Act.put, List.setIfInBounds_toArray, List.set_cons_zero, List.set_cons_succ]
    refine takeL (i := 6) (v := ?_) rfl (by kernel_rfl) (by kernel_rfl) (by kernel_rfl) (fun _ _ _ h => h) (Or.inl ⟨by rfl, ?_⟩) hHeld ?_
    rotate_left
    focus (intro wq hSw; clear hSw; go_simp; try with_reducible rfl)
    try simp only [Act.put, List.setIfInBounds_toArray, List.set_cons_zero, List.set_cons_succ]
    refine takeL (i := 7) (v := ?_) rfl (by kernel_rfl) (by kernel_rfl) (by kernel_rfl) (fun _ _ _ h => h) (Or.inl ⟨by rfl, ?_⟩) hHeld ?_
    rotate_left
    focus (intro wq hSw; have hcq := (Below.cell (p := ⟨b, off + 1, none⟩) hSw H.out.2.2.2.2).trans HK.out.2.1; clear hSw; go_simp; try with_reducible rfl)
    try simp only [Act.put, List.setIfInBounds_toArray, List.set_cons_zero, List.set_cons_succ]
    refine takeL (i := 8) (v := ?_) rfl (by kernel_rfl) (by kernel_rfl) (by kernel_rfl) (fun _ _ _ h => h) (Or.inl ⟨by rfl, ?_⟩) hHeld ?_
    rotate_left
    focus (intro wq hSw; clear hSw; go_simp; try with_reducible rfl)
    try simp only [Act.put, List.setIfInBounds_toArray, List.set_cons_zero, List.set_cons_succ]
    refine takeL (i := 9) (v := ?_) rfl (by kernel_rfl) (by kernel_rfl) (by kernel_rfl) (fun _ _ _ h => h) (Or.inl ⟨by rfl, ?_⟩) hHeld ?_
    rotate_left
    focus (intro wq hSw; clear hSw; go_simp; try with_reducible rfl)
    try simp only [Act.put, List.setIfInBounds_toArray, List.set_cons_zero, List.set_cons_succ]
    refine takeL (i := 10) (v := ?_) rfl (by kernel_rfl) (by kernel_rfl) (by kernel_rfl) (fun _ _ _ h => h) (Or.inl ⟨by rfl, ?_⟩) hHeld ?_
    rotate_left
    focus (intro wq hSw; clear hSw; go_simp; try with_reducible rfl)
    try simp only [Act.put, List.setIfInBounds_toArray, List.set_cons_zero, List.set_cons_succ]
    refine takeL (i := 11) (v := ?_) rfl (by kernel_rfl) (by kernel_rfl) (by kernel_rfl) (fun _ _ _ h => h) (Or.inl ⟨by rfl, ?_⟩) hHeld ?_
    rotate_left
    focus (intro wq hSw; clear hSw; go_simp; try with_reducible rfl)
    try simp only [Act.put, List.setIfInBounds_toArray, List.set_cons_zero, List.set_cons_succ]
    refine takeL (i := 12) (v := ?_) rfl (by kernel_rfl) (by kernel_rfl) (by kernel_rfl) (fun _ _ _ h => h) (Or.inl ⟨by rfl, ?_⟩) hHeld ?_
    rotate_left
    focus (intro wq hSw; clear hSw; go_simp; try with_reducible rfl)
    try simp only [Act.put, List.setIfInBounds_toArray, List.set_cons_zero, List.set_cons_succ]
    refine takeL (i := 13) (v := ?_) rfl (by kernel_rfl) (by kernel_rfl) (by kernel_rfl) (fun _ _ _ h => h) (Or.inl ⟨by rfl, ?_⟩) hHeld ?_
    rotate_left
    focus (intro wq hSw; have hcq := (Below.cell (p := ⟨b, off + 2, none⟩) hSw H.out.2.2.2.2).trans HK.out.2.2.1; clear hSw; go_simp; try with_reducible rfl)
    try simp only [Act.put, List.setIfInBounds_toArray, List.set_cons_zero, List.set_cons_succ]
    refine takeL (i := 14) (v := ?_) rfl (by kernel_rfl) (by kernel_rfl) (by kernel_rfl) (fun _ _ _ h => h) (Or.inl ⟨by rfl, ?_⟩) hHeld ?_
    rotate_left
    focus (intro wq hSw; clear hSw; go_simp; try with_reducible rfl)
    try simp only [Act.put, List.setIfInBounds_toArray, List.set_cons_zero, List.set_cons_succ]
    refine takeL (i := 15) (v := ?_) rfl (by kernel_rfl) (by kernel_rfl) (by kernel_rfl) (fun _ _ _ h => h) (Or.inl ⟨by rfl, ?_⟩) hHeld ?_
    rotate_left
    focus (intro wq hSw; clear hSw; go_simp; try with_reducible rfl)
    try simp only [Act.put, List.setIfInBounds_toArray, List.set_cons_zero, List.set_cons_succ]
    refine takeL (i := 16) (v := ?_) rfl (by kernel_rfl) (by kernel_rfl) (by kernel_rfl) (fun _ _ _ h => h) (Or.inl ⟨by rfl, ?_⟩) hHeld ?_
    rotate_left
    focus (intro wq hSw; clear hSw; go_simp; try with_reducible rfl)
    try simp only [Act.put, List.setIfInBounds_toArray, List.set_cons_zero, List.set_cons_succ]
    refine takeL (i := 17) (v := ?_) rfl (by kernel_rfl) (by kernel_rfl) (by kernel_rfl) (fun _ _ _ h => h) (Or.inl ⟨by rfl, ?_⟩) hHeld ?_
    rotate_left
    focus (intro wq hSw; clear hSw; go_simp; try with_reducible rfl)
    try simp only [Act.put, List.setIfInBounds_toArray, List.set_cons_zero, List.set_cons_succ]
    refine takeL (i := 18) (v := ?_) rfl (by kernel_rfl) (by kernel_rfl) (by kernel_rfl) (fun _ _ _ h => h) (Or.inl ⟨by rfl, ?_⟩) hHeld ?_
    rotate_left
    focus (intro wq hSw; clear hSw; go_simp; try with_reducible rfl)
    try simp only [Act.put, List.setIfInBounds_toArray, List.set_cons_zero, List.set_cons_succ]
    refine takeL (i := 19) (v := ?_) rfl (by kernel_rfl) (by kernel_rfl) (by kernel_rfl) (fun _ _ _ h => h) (Or.inl ⟨by rfl, ?_⟩) hHeld ?_
    rotate_left
    focus (intro wq hSw; have hcq := (Below.cell (p := ⟨b, off + 3, none⟩) hSw H.out.2.2.2.2).trans HK.out.2.2.2; clear hSw; go_simp; try with_reducible rfl)
    try simp only [Act.put, List.setIfInBounds_toArray, List.set_cons_zero, List.set_cons_succ]
    refine takeL (i := 20) (v := ?_) rfl (by kernel_rfl) (by kernel_rfl) (by kernel_rfl) (fun _ _ _ h => h) (Or.inl ⟨by rfl, ?_⟩) hHeld ?_
    rotate_left
    focus (intro wq hSw; clear hSw; go_simp; try with_reducible rfl)
    try simp only [Act.put, List.setIfInBounds_toArray, List.set_cons_zero, List.set_cons_succ]
    refine takeL (i := 21) (v := ?_) rfl (by kernel_rfl) (by kernel_rfl) (by kernel_rfl) (fun _ _ _ h => h) (Or.inl ⟨by rfl, ?_⟩) hHeld ?_
    rotate_left
    focus (intro wq hSw; clear hSw; go_simp; try with_reducible rfl)
    try simp only [Act.put, List.setIfInBounds_toArray, List.set_cons_zero, List.set_cons_succ]
    refine takeL (i := 22) (v := ?_) rfl (by kernel_rfl) (by kernel_rfl) (by kernel_rfl) (fun _ _ _ h => h) (Or.inl ⟨by rfl, ?_⟩) hHeld ?_
    rotate_left
    focus (intro wq hSw; clear hSw; go_simp; try with_reducible rfl)
    try simp only [Act.put, List.setIfInBounds_toArray, List.set_cons_zero, List.set_cons_succ]
    refine wpAnyH_done (by kernel_rfl) ?_ _
    refine NoPanic.normal ?_
    simp only [wb, wb24, wb16, wb8]
    rw [H.out.2.1]
    have HH := Lib.hid hHeld
    clear hHeld l0 l1 l2 l3 n0 n1 n2 n3 t0 t1 t2 t3 w0 w1 w2 w3
    by_cases hbig : 262144 < N
    · have hbi : (262144 : Int) < N := by omega
      have hbd : decide ((262144 : Int) < N) = true := decide_eq_true hbi
      have e1 : nxB l = [] := by unfold nxB; rw [if_neg He4.out, H.out.2.2.1, if_pos hbig]
      have e2 : nxN l = 0 := by unfold nxN; rw [if_neg He4.out, H.out.2.2.1, if_pos hbig]
      have e3 : nxK l = false := by unfold nxK; rw [if_neg He4.out, H.out.2.2.1, if_pos hbig]
      obtain rfl : bb = [] := HE.out.1.symm.trans e1
      obtain rfl : nn = 0 := HE.out.2.1.symm.trans e2
      obtain rfl : kk = false := HE.out.2.2.symm.trans e3
      clear e1 e2 e3
      go_wp2_with fail
      go_ret3
      exact ⟨none, 0, 0, rfl, Own.nil _ _, HH.out⟩
    · have hbi : ¬ (262144 : Int) < N := by omega
      have hbd : decide ((262144 : Int) < N) = false := decide_eq_false hbi
      have e3 : nxK l = true := by unfold nxK; rw [if_neg He4.out, H.out.2.2.1, if_neg hbig]
      obtain rfl : kk = true := HE.out.2.2.symm.trans e3
      by_cases hlen : l.length - 4 < N
      · have hli : (m : Int) - 4 < N := by have := H.out.2.2.2.1; omega
        have hld : decide ((m : Int) - 4 < N) = true := decide_eq_true hli
        have e1 : nxB l = [] := by unfold nxB; rw [if_neg He4.out, H.out.2.2.1, if_neg hbig, if_pos hlen]
        have e2 : nxN l = 0 := by unfold nxN; rw [if_neg He4.out, H.out.2.2.1, if_neg hbig, if_pos hlen]
        obtain rfl : bb = [] := HE.out.1.symm.trans e1
        obtain rfl : nn = 0 := HE.out.2.1.symm.trans e2
        clear e1 e2 e3
        go_wp2_with fail
        go_ret3
        exact ⟨none, 0, 0, rfl, Own.nil _ _, HH.out⟩
      · have hli : ¬ (m : Int) - 4 < N := by have := H.out.2.2.2.1; omega
        have hld : decide ((m : Int) - 4 < N) = false := decide_eq_false hli
        have e1 : nxB l = (l.drop 4).take N := by unfold nxB; rw [if_neg He4.out, H.out.2.2.1, if_neg hbig, if_neg hlen]
        have e2 : nxN l = 4 + N := by unfold nxN; rw [if_neg He4.out, H.out.2.2.1, if_neg hbig, if_neg hlen]
        obtain rfl : bb = (l.drop 4).take N := HE.out.1.symm.trans e1
        obtain rfl : nn = 4 + N := HE.out.2.1.symm.trans e2
        have hmm := H.out.2.2.2.1
        have hrun0 := slice_both (some ⟨b, off, none⟩) m c 4 (4 + N) (by omega) (by omega)
        have hrd := (H.out.1.cut (k := 4) (by omega)).front (k := N) (by omega)
        rw [show 4 + N - 4 = N by omega] at hrun0
        obtain ⟨A2, hA2⟩ : ∃ A2, (if c = 4 then some (⟨b, off, none⟩ : Addr) else Option.map (fun x : Addr => x.add 4) (some (⟨b, off, none⟩ : Addr))) = A2 := ⟨_, rfl⟩
        rw [hA2] at hrun0 hrd
        have hR := Lib.hid (And.intro hrun0 (hrd.below HH.out))
        have hrun := hrun0 wd
        clear e1 e2 e3 hrun0 hrd hA2 hmm
        rw [show ((4 : Nat) : Int) = 4 from rfl, show ((4 + N : Nat) : Int) = 4 + (N : Int) by omega] at hrun
        go_wp2_with (at_builtin; go_must (refine wp_app2 (.const (.slice none 0 0)) (.tmp 41) wd.heap.size (.slice none 0 0) [] (Own.nil _ _) (Nat.le_refl _) A2 N (c - 4) _ hR.out.2 (by have := H.out.2.2.2.1; simp; omega) rfl rfl rfl rfl ?_); intro A3 n3 c3 w3 hi3 hG; rw [List.nil_append] at hG; have H3 := Lib.hid hG; clear hG)
        go_ret3
        exact ⟨A3, n3, c3, by simp, H3.out.own.mono HH.out.size, HH.out.trans H3.out.below⟩
end Go.Proofs.Ytmanpfenmamflaa
