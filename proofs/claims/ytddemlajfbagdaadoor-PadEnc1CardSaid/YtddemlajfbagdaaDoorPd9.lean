/-
  Pad: PSS is read.
-/
import Derived.Test.YtddemlajfbagdaaDoorZzPd8
namespace Go.Proofs.YtddemlajfbagdaaDoor
set_option maxRecDepth 100000
open Go.RowKit

theorem andNot_B (t : TypeId) (x y : UInt8) : binOp .andNot t (B x) (B y) = pure (B (x &&& ~~~y)) := by
  show (pure (.int .u8 (IntKind.u8.wrap (BitVec.toNat (BitVec.ofInt 8 (x.toNat : Int) &&& ~~~BitVec.ofInt 8 (y.toNat : Int))))) : Sem Value) = _
  rw [wrap_u8, ← B_eq]
  have e : ∀ z : UInt8, BitVec.ofInt 8 (z.toNat : Int) = z.toBitVec := fun z => by
    apply BitVec.eq_of_toNat_eq
    have := z.toNat_lt
    simp
  rw [e, e]
  have h : (x &&& ~~~y).toNat = (x.toBitVec &&& ~~~y.toBitVec).toNat := rfl
  have := (x &&& ~~~y).toNat_lt
  rw [← h]
  omega
attribute [local go_sem] andNot_B
theorem rd_first {w : World} {b off m c : Nat} {x : UInt8} {l : List UInt8} (h : Rd w (some ⟨b, off, none⟩) m c l) (hx : l[0]? = some x) : w.cell? ⟨b, off, none⟩ = some (B x) := by
  obtain ⟨_, _, _, ⟨e, _⟩ | ⟨b', off', e, h4⟩⟩ := h
  · cases e
  · cases e; exact h4.2 0 x hx
def VerPF (kind bits : Int) (hash em : List UInt8) (s : Int) : Prop :=
  (0 ≤ s ∧ s ≤ 65536) ∧ (pssF kind bits hash.length s.toNat).2 = 0 ∧ em.length = (pssF kind bits hash.length s.toNat).1.toNat ∧ verP (hsize kind).toNat (rof kind) (mask kind) bits.toNat (pssF kind bits hash.length s.toNat).1.toNat hash em s.toNat
def BRes (w : World) (P : Prop) (e : Ending) (w' : World) : Prop := ∃ r, e = .returned (.bool r) ∧ (r = true ↔ P) ∧ Old w w'
theorem isN_iff (x : UInt8) (n : Nat) (k : Int) (hk : k = n) (h : n < 256) : isN x k = true ↔ x = UInt8.ofNat n := by
  subst hk
  unfold isN
  rw [beq_iff_eq]
  constructor
  · intro e
    apply UInt8.toNat_inj.1
    rw [UInt8.toNat_ofNat_of_lt' h]
    exact_mod_cast e
  · intro e
    rw [e, UInt8.toNat_ofNat_of_lt' h]
theorem bres_no {f : Nat} {args : Array Value} {w : World} {P : Prop} (hP : ¬ P) (h : Calls Tryd.prog f args w fun e w' => e = .returned (.bool false) ∧ Old w w') : Calls Tryd.prog f args w (BRes w P) :=
  h.mono fun e w' ⟨he, hO⟩ => ⟨false, he, ⟨fun h => (by cases h), fun h => absurd h hP⟩, hO⟩
theorem bres_yes {f : Nat} {args : Array Value} {w : World} {P : Prop} (r : Bool) (hP : r = true ↔ P) (h : Calls Tryd.prog f args w fun e w' => e = .returned (.bool r) ∧ Old w w') : Calls Tryd.prog f args w (BRes w P) :=
  h.mono fun e w' ⟨he, hO⟩ => ⟨r, he, hP, hO⟩
set_option maxHeartbeats 16000000 in
theorem verp_any (kind bits s : Int) (A1 A3 : Option Addr) (m1 c1 m3 c3 : Nat) (hash em : List UInt8) (w : World) (h1 : Rd w A1 m1 c1 hash) (h3 : Rd w A3 m3 c3 em) (hK : KAt w) (hb : bits ≤ 1500 ∨ 65536 < bits) :
    Calls Tryd.prog 22 #[.int .i64 kind, .int .i64 bits, .slice A1 m1 c1, .slice A3 m3 c3, .int .i64 s] w (BRes w (VerPF kind bits hash em s)) := by
  have hl1 := h1.1
  have hl3 := h3.1
  unfold VerPF
  rw [← hl1, ← hl3]
  by_cases d1 : s < 0
  · have b1 : decide (s < 0) = true := decide_eq_true d1
    refine bres_no (fun h => absurd h.1.1 (by omega)) ?_
    clear h1 h3 hK hl1 hl3 hb
    go_enter Tryd.func22, Tryd.ntmps22
    go_wp2_with fail
    go_ret
    exact ⟨rfl, Old.refl _⟩
  · have b1 : decide (s < 0) = false := decide_eq_false d1
    by_cases d2 : 65536 < s
    · have b2i : s > 65536 := d2
      have b2 : decide (s > 65536) = true := decide_eq_true d2
      refine bres_no (fun h => absurd h.1.2 (by omega)) ?_
      clear h1 h3 hK hl1 hl3 hb
      go_enter Tryd.func22, Tryd.ntmps22
      go_wp2_with fail
      go_ret
      exact ⟨rfl, Old.refl _⟩
    · have b2i : ¬ s > 65536 := d2
      have b2 : decide (s > 65536) = false := decide_eq_false d2
      obtain ⟨sn, rfl⟩ := Int.eq_ofNat_of_zero_le (show 0 ≤ s by omega)
      rw [Int.toNat_natCast]
      have hps := pss_any kind bits A1 m1 c1 sn w (by omega)
      by_cases d3 : (pssF kind bits m1 sn).2 = 0
      · obtain ⟨N, n, b, hN, hN1, hN64, hm1, rfl, hB1, hB2, hp, hn, hb8, hb9⟩ := pssF_ok kind bits m1 sn d3
        rw [hp] at hps d3 ⊢
        have hn188 : n ≤ 188 := by omega
        have hki := hsize_in kind (by omega)
        rw [hN, Int.toNat_natCast, Int.toNat_natCast, Int.toNat_natCast]
        have hszc := fun W => size_any kind W
        simp only [hN] at hszc
        obtain ⟨nI, hnI⟩ : ∃ x : Int, (n : Int) = x := ⟨_, rfl⟩
        simp only [hnI] at hps
        by_cases d4 : m3 = n
        · have b4 : ((m3 : Int) != nI) = false := by rw [← hnI, d4]; simp
          have h0m : 0 < m3 := by omega
          obtain ⟨p, hp1⟩ : ∃ p, n - 1 = p := ⟨_, rfl⟩
          have hpi : nI - 1 = (p : Int) := by omega
          have hpw : IntKind.i64.wrap (p : Int) = (p : Int) := IntWalk.i64_in _ (by omega)
          have hpm3 : p < m3 := by omega
          have hpm3i : (p : Int) < (m3 : Int) := by omega
          obtain ⟨xl, hxl⟩ : ∃ x, em[p]? = some x := ⟨_, List.getElem?_eq_getElem (by omega)⟩
          obtain ⟨xe, hxe⟩ : ∃ x, em[0]? = some x := ⟨_, List.getElem?_eq_getElem (by omega)⟩
          obtain ⟨be, oe, rfl, hat⟩ := h3.addr h0m
          have yl := hat.2 p xl hxl
          have HE := Lib.hid (And.intro h3 hxe)
          have ye := hat.2 0 xe hxe
          rw [Nat.add_zero] at ye
          clear hat
          have gl : em.getD (n - 1) 0 = xl := by rw [hp1, List.getD_eq_getElem?_getD, hxl]; rfl
          have ge : em.getD 0 0 = xe := by rw [List.getD_eq_getElem?_getD, hxe]; rfl
          unfold verP
          rw [gl, ge]
          by_cases d5 : xl = 188
          · have b5 : isN xl 188 = true := (isN_iff xl 188 188 rfl (by omega)).2 d5
            obtain ⟨e8, he8⟩ : ∃ a, 8 * nI = a := ⟨_, rfl⟩
            have he8w : IntKind.i64.wrap e8 = e8 := IntWalk.i64_in _ (by omega)
            obtain ⟨t, ht⟩ := Int.eq_ofNat_of_zero_le (show 0 ≤ e8 - (b : Int) by omega)
            have htw : IntKind.i64.wrap (t : Int) = (t : Int) := IntWalk.i64_in _ (by omega)
            have hshr := fun T => shr_top b n t T (by omega) (by omega)
            unfold verDb
            obtain ⟨tp, htp⟩ : ∃ t, topB b n = t := ⟨_, rfl⟩
            simp only [htp] at hshr ⊢
            obtain ⟨a1, ha1⟩ : ∃ a, nI - (N : Int) = a := ⟨_, rfl⟩
            have ha1w : IntKind.i64.wrap a1 = a1 := IntWalk.i64_in _ (by omega)
            obtain ⟨k, hk⟩ := Int.eq_ofNat_of_zero_le (show 0 ≤ a1 - 1 by omega)
            have hkw : IntKind.i64.wrap (k : Int) = (k : Int) := IntWalk.i64_in _ (by omega)
            have hk0 : 0 < k := by omega
            have hkn : n - N - 1 = k := by omega
            rw [hkn]
            obtain ⟨hS1, hR1⟩ := h3.cut_to (k := k) (by omega)
            obtain ⟨A5, c5, hS2, hR2⟩ := h3.cut_mid (k := k) (j := p) (d := N) (by omega) (by omega)
            obtain ⟨VX, hVX⟩ : ∃ x, em.take k = x := ⟨_, rfl⟩
            obtain ⟨VH, hVH⟩ : ∃ x, (em.drop k).take N = x := ⟨_, rfl⟩
            rw [hVX] at hR1
            rw [hVH] at hR2
            rw [hVX, hVH]
            by_cases d6 : xe &&& ~~~tp = 0
            · have b6 : isN (xe &&& ~~~tp) 0 = true := (isN_iff _ 0 0 rfl (by omega)).2 d6
              have hXl : (xorB VX (mask kind VH k)).length = k := by rw [xorB_len _ _ (by rw [mask_len kind hki VH (by rw [← hR2.1]; omega), ← hR1.1]; exact Nat.le_refl _)]; exact hR1.1.symm
              have hpm := fun W (hr1 : Rd W (some ⟨be, oe, none⟩) k c3 VX) (hr2 : Rd W A5 N c5 VH) (hK : KAt W) => pmask_any kind hki A5 (some ⟨be, oe, none⟩) N c5 k c3 VH VX W hr2 hr1 (by omega) (by omega) hk0 hK
              obtain ⟨XL, hXL⟩ : ∃ X, xorB VX (mask kind VH k) = X := ⟨_, rfl⟩
              simp only [hXL] at hpm hXl ⊢
              cases XL with
              | nil => exact absurd hXl (by simp only [List.length_nil]; omega)
              | cons x0 xr =>
                show Calls _ _ _ _ (BRes w (_ ∧ _ ∧ _ ∧ _ ∧ _ ∧ ∃ s, trimZ ((x0 &&& tp) :: xr) = 1 :: s ∧ _ ∧ _))
                have hk200 : k ≤ 200 := by omega
                have HS := Lib.hid (And.intro hps (And.intro hszc (And.intro hR1 (And.intro hR2 (And.intro hK (And.intro hpm (And.intro hXl (And.intro h1 hk200))))))))
                obtain ⟨TT, hTT⟩ : ∃ T, trimZ ((x0 &&& tp) :: xr) = T := ⟨_, rfl⟩
                rw [hTT]
                obtain ⟨s1, hs1⟩ : ∃ a, (sn : Int) + 1 = a := ⟨_, rfl⟩
                have hs1w : IntKind.i64.wrap s1 = s1 := IntWalk.i64_in _ (by omega)
                have hts : TT.length ≤ k := by rw [← hTT]; have := trimZ_le ((x0 &&& tp) :: xr); rw [List.length_cons] at this hXl; omega
                have hm1k : hash.length ≤ 1000 := by omega
                clear h1 h3 hK hl3 hb hps hszc hR1 hR2 hp1 hxl gl ge hn hb8 hb9 hB1 hB2 hN hVX hVH hkn hn188 hN64 hN1 hm1 hnI d1 htp hXL hpm hXl
                by_cases e1 : TT.length = sn + 1
                · have b7 : ∀ n : Nat, n = TT.length → ((n : Int) == s1) = true := fun n h => by rw [beq_iff_eq]; omega
                  cases TT with
                  | nil => cases e1
                  | cons x r =>
                    by_cases e2 : x = 1
                    · have b8 : isN x 1 = true := (isN_iff x 1 1 rfl (by omega)).2 e2
                      obtain ⟨PH, hPH⟩ : ∃ h, pssH (rof kind) hash r = h := ⟨_, rfl⟩
                      refine bres_yes (decide (VH = PH)) ?_ ?_
                      · rw [decide_eq_true_iff]
                        constructor
                        · intro h
                          exact ⟨⟨by omega, by omega⟩, (by first | exact trivial | rfl), d4, d5, d6, r, by rw [e2], by rw [List.length_cons] at e1; omega, by rw [hPH]; exact h⟩
                        · rintro ⟨_, _, _, _, _, s, h, _, h2⟩
                          injection h with _ h
                          rw [h2, ← h, hPH]
                      have hof := fun (A : Option Addr) (c : Nat) (W : World) (hp : PartsAt W A 3 c [zs 8, hash, r]) (hK : KAt W) => of_res_all kind A 3 c [zs 8, hash, r] W hp (by simp [zs_len]; rw [List.length_cons] at hts; have := hl1; omega) hK
                      rw [show [zs 8, hash, r].flatten = List.replicate 8 0 ++ hash ++ r by simp [zs], show rof kind (List.replicate 8 0 ++ hash ++ r) = PH from hPH] at hof
                      have HO := Lib.hid (And.intro hof (show r.length + 1 ≤ 1000 by rw [List.length_cons] at hts; omega))
                      have hmk8 : ∀ w : World, (Instr.makeSlice 22 (.int .i64 8) (.int .i64 8)).run Tryd.prog w = .ok (.slice (some ⟨w.heap.size, 0, none⟩) 8 8) (w.alloc (.cells (madeCells #[.int .u8 0] 8) 5)) := Tryd.prog_make 8 (by omega)
                      clear d3 d4 d5 d6 hxe hp hki e1 e2 hl1 hof hPH hm1k d2 hk200
                      go_enter Tryd.func22, Tryd.ntmps22
                      go_wp2_with fail
                      refine HS.out.1.mono ?_
                      rintro e w' ⟨rfl, rfl⟩
                      go_wp2_with fail
                      refine (HS.out.2.1 _).mono ?_
                      rintro e w' ⟨rfl, rfl⟩
                      go_wp2_with fail
                      refine region_old (by kernel_rfl) (fun wd hHeld hSz => ?_)
                      have HSz := Lib.hid hSz
                      clear hSz
                      refine takeL (i := 0) (v := ?_) rfl (by kernel_rfl) (by kernel_rfl) (by kernel_rfl) (fun _ _ _ h => h) (Or.inl ⟨by rfl, ?_⟩) hHeld ?_
                      rotate_left
                      focus (intro wq hSw; clear hSw; go_simp; try with_reducible rfl)
                      try simp only [Act.put, List.setIfInBounds_toArray, List.set_cons_zero, List.set_cons_succ]
                      refine takeL (i := 1) (v := ?_) rfl (by kernel_rfl) (by kernel_rfl) (by kernel_rfl) (fun _ _ _ h => h) (Or.inl ⟨by rfl, ?_⟩) hHeld ?_
                      rotate_left
                      focus (intro wq hSw; clear hSw; go_simp; try with_reducible rfl)
                      try simp only [Act.put, List.setIfInBounds_toArray, List.set_cons_zero, List.set_cons_succ]
                      refine takeL (i := 2) (v := ?_) rfl (by kernel_rfl) (by kernel_rfl) (by kernel_rfl) (fun _ _ _ h => h) (Or.inl ⟨by rfl, ?_⟩) hHeld ?_
                      rotate_left
                      focus (intro wq hSw; clear hSw; go_simp; try with_reducible rfl)
                      try simp only [Act.put, List.setIfInBounds_toArray, List.set_cons_zero, List.set_cons_succ]
                      refine takeL (i := 3) (v := ?_) rfl (by kernel_rfl) (by kernel_rfl) (by kernel_rfl) (fun _ _ _ h => h) (Or.inl ⟨by rfl, ?_⟩) hHeld ?_
                      rotate_left
                      focus (intro wq hSw; clear hSw; go_simp; try with_reducible rfl)
                      try simp only [Act.put, List.setIfInBounds_toArray, List.set_cons_zero, List.set_cons_succ]
                      refine takeL (i := 4) (v := ?_) rfl (by kernel_rfl) (by kernel_rfl) (by kernel_rfl) (fun _ _ _ h => h) (Or.inl ⟨by rfl, ?_⟩) hHeld ?_
                      rotate_left
                      focus (intro wq hSw; clear hSw; go_simp; try with_reducible rfl)
                      try simp only [Act.put, List.setIfInBounds_toArray, List.set_cons_zero, List.set_cons_succ]
                      refine takeL (i := 5) (v := ?_) rfl (by kernel_rfl) (by kernel_rfl) (by kernel_rfl) (fun _ _ _ h => h) (Or.inl ⟨by rfl, ?_⟩) hHeld ?_
                      rotate_left
                      focus (intro wq hSw; have hRun := hS1 wq; clear hSw; go_simp; try with_reducible rfl)
                      try simp only [Act.put, List.setIfInBounds_toArray, List.set_cons_zero, List.set_cons_succ]
                      refine takeL (i := 6) (v := ?_) rfl (by kernel_rfl) (by kernel_rfl) (by kernel_rfl) (fun _ _ _ h => h) (Or.inl ⟨by rfl, ?_⟩) hHeld ?_
                      rotate_left
                      focus (intro wq hSw; clear hSw; go_simp; try with_reducible rfl)
                      try simp only [Act.put, List.setIfInBounds_toArray, List.set_cons_zero, List.set_cons_succ]
                      refine takeL (i := 7) (v := ?_) rfl (by kernel_rfl) (by kernel_rfl) (by kernel_rfl) (fun _ _ _ h => h) (Or.inl ⟨by rfl, ?_⟩) hHeld ?_
                      rotate_left
                      focus (intro wq hSw; clear hSw; go_simp; try with_reducible rfl)
                      try simp only [Act.put, List.setIfInBounds_toArray, List.set_cons_zero, List.set_cons_succ]
                      refine takeL (i := 8) (v := ?_) rfl (by kernel_rfl) (by kernel_rfl) (by kernel_rfl) (fun _ _ _ h => h) (Or.inl ⟨by rfl, ?_⟩) hHeld ?_
                      rotate_left
                      focus (intro wq hSw; clear hSw; go_simp; try with_reducible rfl)
                      try simp only [Act.put, List.setIfInBounds_toArray, List.set_cons_zero, List.set_cons_succ]
                      refine takeL (i := 9) (v := ?_) rfl (by kernel_rfl) (by kernel_rfl) (by kernel_rfl) (fun _ _ _ h => h) (Or.inl ⟨by rfl, ?_⟩) hHeld ?_
                      rotate_left
                      focus (intro wq hSw; clear hSw; go_simp; try with_reducible rfl)
                      try simp only [Act.put, List.setIfInBounds_toArray, List.set_cons_zero, List.set_cons_succ]
                      refine takeL (i := 10) (v := ?_) rfl (by kernel_rfl) (by kernel_rfl) (by kernel_rfl) (fun _ _ _ h => h) (Or.inl ⟨by rfl, ?_⟩) hHeld ?_
                      rotate_left
                      focus (intro wq hSw; clear hSw; go_simp; try with_reducible rfl)
                      try simp only [Act.put, List.setIfInBounds_toArray, List.set_cons_zero, List.set_cons_succ]
                      refine takeL (i := 11) (v := ?_) rfl (by kernel_rfl) (by kernel_rfl) (by kernel_rfl) (fun _ _ _ h => h) (Or.inl ⟨by rfl, ?_⟩) hHeld ?_
                      rotate_left
                      focus (intro wq hSw; clear hSw; go_simp; try with_reducible rfl)
                      try simp only [Act.put, List.setIfInBounds_toArray, List.set_cons_zero, List.set_cons_succ]
                      refine takeL (i := 12) (v := ?_) rfl (by kernel_rfl) (by kernel_rfl) (by kernel_rfl) (fun _ _ _ h => h) (Or.inl ⟨by rfl, ?_⟩) hHeld ?_
                      rotate_left
                      focus (intro wq hSw; clear hSw; go_simp; try with_reducible rfl)
                      try simp only [Act.put, List.setIfInBounds_toArray, List.set_cons_zero, List.set_cons_succ]
                      refine takeL (i := 13) (v := ?_) rfl (by kernel_rfl) (by kernel_rfl) (by kernel_rfl) (fun _ _ _ h => h) (Or.inl ⟨by rfl, ?_⟩) hHeld ?_
                      rotate_left
                      focus (intro wq hSw; have hRun := hS2 wq; clear hSw; go_simp; try with_reducible rfl)
                      try simp only [Act.put, List.setIfInBounds_toArray, List.set_cons_zero, List.set_cons_succ]
                      refine takeL (i := 14) (v := ?_) rfl (by kernel_rfl) (by kernel_rfl) (by kernel_rfl) (fun _ _ _ h => h) (Or.inl ⟨by rfl, ?_⟩) hHeld ?_
                      rotate_left
                      focus (intro wq hSw; clear hSw; go_simp; try with_reducible rfl)
                      try simp only [Act.put, List.setIfInBounds_toArray, List.set_cons_zero, List.set_cons_succ]
                      refine takeL (i := 15) (v := ?_) rfl (by kernel_rfl) (by kernel_rfl) (by kernel_rfl) (fun _ _ _ h => h) (Or.inl ⟨by rfl, ?_⟩) hHeld ?_
                      rotate_left
                      focus (intro wq hSw; clear hSw; go_simp; try with_reducible rfl)
                      try simp only [Act.put, List.setIfInBounds_toArray, List.set_cons_zero, List.set_cons_succ]
                      refine wpAnyH_done (by kernel_rfl) ?_ _
                      refine NoPanic.normal ?_
                      try simp only [Exit.then]
                      clear HSz
                      have hye := rd_first (HE.out.1.below hHeld) HE.out.2
                      have HD := Lib.hid (show Old w wd from hHeld)
                      clear hHeld
                      go_wp2_with fail
                      refine (HS.out.2.2.2.2.2.1 _ (HS.out.2.2.1.below HD.out) (HS.out.2.2.2.1.below HD.out) (HS.out.2.2.2.2.1.below HD.out)).mono ?_
                      rintro e w1 ⟨A6, n6, c6, rfl, hR6, hB6⟩
                      have hn6 := hR6.len
                      rw [HS.out.2.2.2.2.2.2.1] at hn6
                      obtain ⟨g, cg, e1⟩ := hR6.form (by intro e; injection e with _ e2 _; omega)
                      injection e1 with e1 e2 e3
                      subst e1 e3
                      clear e2
                      have h06 : 0 < n6 := by omega
                      have yq := hR6.cell 0 x0 rfl
                      have fq := hR6.frozen 0
                      obtain ⟨w2, hw2⟩ : ∃ w2, w1.setCell ⟨g, 0, none⟩ (B (x0 &&& tp)) = w2 := ⟨_, rfl⟩
                      have ho2 := hR6.set_ 0 (x0 &&& tp) h06
                      have hT2 := ((Turn.refl [g] w1).setCell (p := ⟨g, 0, none⟩) (.inl (by simp)) (B (x0 &&& tp)))
                      rw [hw2] at ho2 hT2
                      have hO1 : Old w w1 := Old.trans HD.out hB6
                      have hO2 : Old w w2 := below_turn hO1 hT2 (fun x hx => by simp at hx; rw [hx]; exact Nat.le_trans HD.out.size (hR6.lt (g := g) rfl).1) hO1.size
                      have H2 := Lib.hid (And.intro (show Own w2 wd.heap.size (.slice (some ⟨g, 0, none⟩) n6 c6) ((x0 &&& tp) :: xr) from ho2) (And.intro hO2 (show n6 ≤ 1000 by have := HS.out.2.2.2.2.2.2.2.2; omega)))
                      clear hR6 hB6 ho2 hT2 hO1 hO2 hn6
                      go_wp2_with fail
                      refine (trimL_any (some ⟨g, 0, none⟩) n6 c6 _ w2 H2.out.1.rd (by have := H2.out.2.2; omega)).mono ?_
                      rintro e w3 ⟨A10, n10, c10, rfl, hR10, rfl⟩
                      rw [hTT] at hR10
                      have b9 := b7 n10 hR10.1
                      have hn10 : n10 = r.length + 1 := hR10.1
                      have h10p : 0 < n10 := by omega
                      obtain ⟨bt, ot, rfl, _⟩ := hR10.addr h10p
                      have HT := Lib.hid hR10
                      obtain ⟨A12, n12, c12, hn12, hS12, hR12, _⟩ := hR10.cut_ex2 (k := 1) (by omega)
                      rw [show ((1 : Nat) : Int) = 1 from rfl] at hS12
                      have H12 := Lib.hid hR12
                      clear hR12 hn12
                      clear hR10 b7 yq fq hye hn10 hts hTT
                      go_wp2_with fail
                      refine region_old (by kernel_rfl) (fun wd hHeld hSz => ?_)
                      have HSz := Lib.hid hSz
                      clear hSz
                      refine takeL (i := 0) (v := ?_) rfl (by kernel_rfl) (by kernel_rfl) (by kernel_rfl) (fun _ _ _ h => h) (Or.inl ⟨by rfl, ?_⟩) hHeld ?_
                      rotate_left
                      focus (intro wq hSw; clear hSw; go_simp; try with_reducible rfl)
                      try simp only [Act.put, List.setIfInBounds_toArray, List.set_cons_zero, List.set_cons_succ]
                      refine takeL (i := 1) (v := ?_) rfl (by kernel_rfl) (by kernel_rfl) (by kernel_rfl) (fun _ _ _ h => h) (Or.inl ⟨by rfl, ?_⟩) hHeld ?_
                      rotate_left
                      focus (intro wq hSw; clear hSw; go_simp; try with_reducible rfl)
                      try simp only [Act.put, List.setIfInBounds_toArray, List.set_cons_zero, List.set_cons_succ]
                      refine takeL (i := 2) (v := ?_) rfl (by kernel_rfl) (by kernel_rfl) (by kernel_rfl) (fun _ _ _ h => h) (Or.inl ⟨by rfl, ?_⟩) hHeld ?_
                      rotate_left
                      focus (intro wq hSw; clear hSw; go_simp; try with_reducible rfl)
                      try simp only [Act.put, List.setIfInBounds_toArray, List.set_cons_zero, List.set_cons_succ]
                      refine takeL (i := 3) (v := ?_) rfl (by kernel_rfl) (by kernel_rfl) (by kernel_rfl) (fun _ _ _ h => h) (Or.inl ⟨by rfl, ?_⟩) hHeld ?_
                      rotate_left
                      focus (intro wq hSw; clear hSw; go_simp; try with_reducible rfl)
                      try simp only [Act.put, List.setIfInBounds_toArray, List.set_cons_zero, List.set_cons_succ]
                      refine takeL (i := 4) (v := ?_) rfl (by kernel_rfl) (by kernel_rfl) (by kernel_rfl) (fun _ _ _ h => h) (Or.inl ⟨by rfl, ?_⟩) hHeld ?_
                      rotate_left
                      focus (intro wq hSw; clear hSw; go_simp; try with_reducible rfl)
                      try simp only [Act.put, List.setIfInBounds_toArray, List.set_cons_zero, List.set_cons_succ]
                      refine takeL (i := 5) (v := .bool true) rfl (by kernel_rfl) (by kernel_rfl) (by kernel_rfl) (fun _ _ _ h => h) (Or.inl ⟨by rfl, ?_⟩) hHeld ?_
                      focus (intro wq hSw; clear hSw; go_simp; try with_reducible rfl)
                      try simp only [Act.put, List.setIfInBounds_toArray, List.set_cons_zero, List.set_cons_succ]
                      refine takeL (i := 6) (v := ?_) rfl (by kernel_rfl) (by kernel_rfl) (by kernel_rfl) (fun _ _ _ h => h) (Or.inl ⟨by rfl, ?_⟩) hHeld ?_
                      rotate_left
                      focus (intro wq hSw; clear hSw; go_simp; try with_reducible rfl)
                      try simp only [Act.put, List.setIfInBounds_toArray, List.set_cons_zero, List.set_cons_succ]
                      refine takeL (i := 7) (v := ?_) rfl (by kernel_rfl) (by kernel_rfl) (by kernel_rfl) (fun _ _ _ h => h) (Or.inl ⟨by rfl, ?_⟩) hHeld ?_
                      rotate_left
                      focus (intro wq hSw; clear hSw; go_simp; try with_reducible rfl)
                      try simp only [Act.put, List.setIfInBounds_toArray, List.set_cons_zero, List.set_cons_succ]
                      refine takeL (i := 8) (v := ?_) rfl (by kernel_rfl) (by kernel_rfl) (by kernel_rfl) (fun _ _ _ h => h) (Or.inl ⟨by rfl, ?_⟩) hHeld ?_
                      rotate_left
                      focus (intro wq hSw; have hy := rd_head (HT.out.below hSw); clear hSw; go_simp; try with_reducible rfl)
                      try simp only [Act.put, List.setIfInBounds_toArray, List.set_cons_zero, List.set_cons_succ]
                      refine takeL (i := 9) (v := ?_) rfl (by kernel_rfl) (by kernel_rfl) (by kernel_rfl) (fun _ _ _ h => h) (Or.inl ⟨by rfl, ?_⟩) hHeld ?_
                      rotate_left
                      focus (intro wq hSw; clear hSw; go_simp; try with_reducible rfl)
                      try simp only [Act.put, List.setIfInBounds_toArray, List.set_cons_zero, List.set_cons_succ]
                      refine takeL (i := 10) (v := ?_) rfl (by kernel_rfl) (by kernel_rfl) (by kernel_rfl) (fun _ _ _ h => h) (Or.inl ⟨by rfl, ?_⟩) hHeld ?_
                      rotate_left
                      focus (intro wq hSw; clear hSw; go_simp; try with_reducible rfl)
                      try simp only [Act.put, List.setIfInBounds_toArray, List.set_cons_zero, List.set_cons_succ]
                      refine takeL (i := 11) (v := .bool true) rfl (by kernel_rfl) (by kernel_rfl) (by kernel_rfl) (fun _ _ _ h => h) (Or.inl ⟨by rfl, ?_⟩) hHeld ?_
                      focus (intro wq hSw; clear hSw; go_simp; try with_reducible rfl)
                      try simp only [Act.put, List.setIfInBounds_toArray, List.set_cons_zero, List.set_cons_succ]
                      refine takeL (i := 12) (v := ?_) rfl (by kernel_rfl) (by kernel_rfl) (by kernel_rfl) (fun _ _ _ h => h) (Or.inl ⟨by rfl, ?_⟩) hHeld ?_
                      rotate_left
                      focus (intro wq hSw; clear hSw; go_simp; try with_reducible rfl)
                      try simp only [Act.put, List.setIfInBounds_toArray, List.set_cons_zero, List.set_cons_succ]
                      refine takeL (i := 13) (v := ?_) rfl (by kernel_rfl) (by kernel_rfl) (by kernel_rfl) (fun _ _ _ h => h) (Or.inl ⟨by rfl, ?_⟩) hHeld ?_
                      rotate_left
                      focus (intro wq hSw; clear hSw; go_simp; try with_reducible rfl)
                      try simp only [Act.put, List.setIfInBounds_toArray, List.set_cons_zero, List.set_cons_succ]
                      refine takeL (i := 15) (v := ?_) rfl (by kernel_rfl) (by kernel_rfl) (by kernel_rfl) (fun _ _ _ h => h) (Or.inl ⟨by rfl, ?_⟩) hHeld ?_
                      rotate_left
                      focus (intro wq hSw; clear hSw; go_simp; try with_reducible rfl)
                      try simp only [Act.put, List.setIfInBounds_toArray, List.set_cons_zero, List.set_cons_succ]
                      refine takeL (i := 16) (v := ?_) rfl (by kernel_rfl) (by kernel_rfl) (by kernel_rfl) (fun _ _ _ h => h) (Or.inl ⟨by rfl, ?_⟩) hHeld ?_
                      rotate_left
                      focus (intro wq hSw; clear hSw; go_simp; try with_reducible rfl)
                      try simp only [Act.put, List.setIfInBounds_toArray, List.set_cons_zero, List.set_cons_succ]
                      refine takeL (i := 17) (v := ?_) rfl (by kernel_rfl) (by kernel_rfl) (by kernel_rfl) (fun _ _ _ h => h) (Or.inl ⟨by rfl, ?_⟩) hHeld ?_
                      rotate_left
                      focus (intro wq hSw; have hRun := hS12 wq; clear hSw; go_simp; try with_reducible rfl)
                      try simp only [Act.put, List.setIfInBounds_toArray, List.set_cons_zero, List.set_cons_succ]
                      refine wpAnyH_ready (rs := [14]) (by kernel_rfl) (by simp) ?_
                      refine consL rfl (fun K hK => ?_) AllReadyH.nil
                      go_simp
                      obtain ⟨wa, hwa⟩ : ∃ wa, wd.alloc (.cells (madeCells #[.int .u8 0] 8) 5) = wa := ⟨_, rfl⟩
                      have hoa : Own wa wd.heap.size (.slice (some ⟨wd.heap.size, 0, none⟩) 8 8) (zs 8) := by rw [← hwa]; exact Own.made wd 8 (by decide)
                      have hA : Old w2 wa := by rw [← hwa]; exact Old.alloc hHeld _
                      rw [hwa]
                      clear hwa
                      refine hK.out _ _ hA (fun hHeld => ?_)
                      clear hK K
                      try simp only [Act.put, List.setIfInBounds_toArray, List.set_cons_zero, List.set_cons_succ]
                      refine wpAnyH_ready (rs := [18]) (by kernel_rfl) (by simp) ?_
                      refine consL rfl (fun K hK => ?_) AllReadyH.nil
                      go_simp
                      obtain ⟨wb, hwb⟩ : ∃ wb, wa.alloc (.cells #[.slice (some ⟨wd.heap.size, 0, none⟩) 8 8, .slice A1 m1 c1, .slice A12 n12 c12] 22) = wb := ⟨_, rfl⟩
                      have hAB : Old wa wb := by rw [← hwb]; exact (Old.refl wa).alloc _
                      have hB : Old w2 wb := Old.trans hA hAB
                      have hPP : PartsAt wb (some ⟨wa.heap.size, 0, none⟩) 3 3 [zs 8, hash, r] := rd_three (by rw [← hwb]; exact Blk.new _ _ _) (hoa.rd.below hAB) (HS.out.2.2.2.2.2.2.2.1.below (Old.trans H2.out.2.1 hB)) (H12.out.below hB)
                      rw [hwb]
                      clear hwb
                      refine hK.out _ _ hB (fun hHeld => ?_)
                      clear hK K
                      try simp only [Act.put, List.setIfInBounds_toArray, List.set_cons_zero, List.set_cons_succ]
                      refine wpAnyH_ready (rs := [19]) (by kernel_rfl) (by simp) ?_
                      refine consL rfl (fun K hK => ?_) AllReadyH.nil
                      go_simp
                      refine (HO.out.1 _ _ _ hPP (HS.out.2.2.2.2.1.below (Old.trans H2.out.2.1 hB))).mono ?_
                      rintro e w4 ⟨A11, n11, c11, rfl, hR11, hB11⟩
                      have hb4 : Old w2 w4 := Old.trans hB hB11
                      have hR11 := hR11.rd
                      clear hB11
                      refine hK.out _ _ hb4 (fun hHeld => ?_)
                      clear hK K
                      try simp only [Act.put, List.setIfInBounds_toArray, List.set_cons_zero, List.set_cons_succ]
                      refine wpAnyH_old (w1 := w4) hb4 (fun hHeld => ?_) (Old.refl _)
                      refine wpAnyH_ready (rs := [20]) (by kernel_rfl) (by simp) ?_
                      refine consL rfl (fun K hK => ?_) AllReadyH.nil
                      go_simp
                      refine (equalB_any _ _ _ _ _ _ _ _ _ (HS.out.2.2.2.1.below (Old.trans H2.out.2.1 hb4)) hR11).mono ?_
                      rintro e w5 ⟨rfl, rfl⟩
                      refine hK.out _ _ (Old.refl _) (fun hHeld => ?_)
                      clear hK K
                      try simp only [Act.put, List.setIfInBounds_toArray, List.set_cons_zero, List.set_cons_succ]
                      refine takeL (i := 21) (v := ?_) rfl (by kernel_rfl) (by kernel_rfl) (by kernel_rfl) (fun _ _ _ h => h) (Or.inl ⟨by rfl, ?_⟩) hHeld ?_
                      rotate_left
                      focus (intro wq hSw; clear hSw; go_simp; try with_reducible rfl)
                      try simp only [Act.put, List.setIfInBounds_toArray, List.set_cons_zero, List.set_cons_succ]
                      refine takeL (i := 22) (v := ?_) rfl (by kernel_rfl) (by kernel_rfl) (by kernel_rfl) (fun _ _ _ h => h) (Or.inl ⟨by rfl, ?_⟩) hHeld ?_
                      rotate_left
                      focus (intro wq hSw; clear hSw; go_simp; try with_reducible rfl)
                      try simp only [Act.put, List.setIfInBounds_toArray, List.set_cons_zero, List.set_cons_succ]
                      refine wpAnyH_done (by kernel_rfl) ?_ _
                      refine NoPanic.normal ?_
                      try simp only [Exit.then]
                      go_wp2_with fail
                      go_ret
                      exact ⟨rfl, Old.trans H2.out.2.1 hb4⟩
                    · have b8 : isN x 1 = false := by rw [← Bool.not_eq_true, isN_iff x 1 1 rfl (by omega)]; exact e2
                      refine bres_no (fun h => by obtain ⟨s, h, _⟩ := h.2.2.2.2.2; injection h with h _; exact e2 h) ?_
                      clear d3 d4 d5 d6 hxe hp hki e1 e2 hl1 hm1k d2 hk200
                      go_enter Tryd.func22, Tryd.ntmps22
                      go_wp2_with fail
                      refine HS.out.1.mono ?_
                      rintro e w' ⟨rfl, rfl⟩
                      go_wp2_with fail
                      refine (HS.out.2.1 _).mono ?_
                      rintro e w' ⟨rfl, rfl⟩
                      go_wp2_with fail
                      refine region_old (by kernel_rfl) (fun wd hHeld hSz => ?_)
                      have HSz := Lib.hid hSz
                      clear hSz
                      refine takeL (i := 0) (v := ?_) rfl (by kernel_rfl) (by kernel_rfl) (by kernel_rfl) (fun _ _ _ h => h) (Or.inl ⟨by rfl, ?_⟩) hHeld ?_
                      rotate_left
                      focus (intro wq hSw; clear hSw; go_simp; try with_reducible rfl)
                      try simp only [Act.put, List.setIfInBounds_toArray, List.set_cons_zero, List.set_cons_succ]
                      refine takeL (i := 1) (v := ?_) rfl (by kernel_rfl) (by kernel_rfl) (by kernel_rfl) (fun _ _ _ h => h) (Or.inl ⟨by rfl, ?_⟩) hHeld ?_
                      rotate_left
                      focus (intro wq hSw; clear hSw; go_simp; try with_reducible rfl)
                      try simp only [Act.put, List.setIfInBounds_toArray, List.set_cons_zero, List.set_cons_succ]
                      refine takeL (i := 2) (v := ?_) rfl (by kernel_rfl) (by kernel_rfl) (by kernel_rfl) (fun _ _ _ h => h) (Or.inl ⟨by rfl, ?_⟩) hHeld ?_
                      rotate_left
                      focus (intro wq hSw; clear hSw; go_simp; try with_reducible rfl)
                      try simp only [Act.put, List.setIfInBounds_toArray, List.set_cons_zero, List.set_cons_succ]
                      refine takeL (i := 3) (v := ?_) rfl (by kernel_rfl) (by kernel_rfl) (by kernel_rfl) (fun _ _ _ h => h) (Or.inl ⟨by rfl, ?_⟩) hHeld ?_
                      rotate_left
                      focus (intro wq hSw; clear hSw; go_simp; try with_reducible rfl)
                      try simp only [Act.put, List.setIfInBounds_toArray, List.set_cons_zero, List.set_cons_succ]
                      refine takeL (i := 4) (v := ?_) rfl (by kernel_rfl) (by kernel_rfl) (by kernel_rfl) (fun _ _ _ h => h) (Or.inl ⟨by rfl, ?_⟩) hHeld ?_
                      rotate_left
                      focus (intro wq hSw; clear hSw; go_simp; try with_reducible rfl)
                      try simp only [Act.put, List.setIfInBounds_toArray, List.set_cons_zero, List.set_cons_succ]
                      refine takeL (i := 5) (v := ?_) rfl (by kernel_rfl) (by kernel_rfl) (by kernel_rfl) (fun _ _ _ h => h) (Or.inl ⟨by rfl, ?_⟩) hHeld ?_
                      rotate_left
                      focus (intro wq hSw; have hRun := hS1 wq; clear hSw; go_simp; try with_reducible rfl)
                      try simp only [Act.put, List.setIfInBounds_toArray, List.set_cons_zero, List.set_cons_succ]
                      refine takeL (i := 6) (v := ?_) rfl (by kernel_rfl) (by kernel_rfl) (by kernel_rfl) (fun _ _ _ h => h) (Or.inl ⟨by rfl, ?_⟩) hHeld ?_
                      rotate_left
                      focus (intro wq hSw; clear hSw; go_simp; try with_reducible rfl)
                      try simp only [Act.put, List.setIfInBounds_toArray, List.set_cons_zero, List.set_cons_succ]
                      refine takeL (i := 7) (v := ?_) rfl (by kernel_rfl) (by kernel_rfl) (by kernel_rfl) (fun _ _ _ h => h) (Or.inl ⟨by rfl, ?_⟩) hHeld ?_
                      rotate_left
                      focus (intro wq hSw; clear hSw; go_simp; try with_reducible rfl)
                      try simp only [Act.put, List.setIfInBounds_toArray, List.set_cons_zero, List.set_cons_succ]
                      refine takeL (i := 8) (v := ?_) rfl (by kernel_rfl) (by kernel_rfl) (by kernel_rfl) (fun _ _ _ h => h) (Or.inl ⟨by rfl, ?_⟩) hHeld ?_
                      rotate_left
                      focus (intro wq hSw; clear hSw; go_simp; try with_reducible rfl)
                      try simp only [Act.put, List.setIfInBounds_toArray, List.set_cons_zero, List.set_cons_succ]
                      refine takeL (i := 9) (v := ?_) rfl (by kernel_rfl) (by kernel_rfl) (by kernel_rfl) (fun _ _ _ h => h) (Or.inl ⟨by rfl, ?_⟩) hHeld ?_
                      rotate_left
                      focus (intro wq hSw; clear hSw; go_simp; try with_reducible rfl)
                      try simp only [Act.put, List.setIfInBounds_toArray, List.set_cons_zero, List.set_cons_succ]
                      refine takeL (i := 10) (v := ?_) rfl (by kernel_rfl) (by kernel_rfl) (by kernel_rfl) (fun _ _ _ h => h) (Or.inl ⟨by rfl, ?_⟩) hHeld ?_
                      rotate_left
                      focus (intro wq hSw; clear hSw; go_simp; try with_reducible rfl)
                      try simp only [Act.put, List.setIfInBounds_toArray, List.set_cons_zero, List.set_cons_succ]
                      refine takeL (i := 11) (v := ?_) rfl (by kernel_rfl) (by kernel_rfl) (by kernel_rfl) (fun _ _ _ h => h) (Or.inl ⟨by rfl, ?_⟩) hHeld ?_
                      rotate_left
                      focus (intro wq hSw; clear hSw; go_simp; try with_reducible rfl)
                      try simp only [Act.put, List.setIfInBounds_toArray, List.set_cons_zero, List.set_cons_succ]
                      refine takeL (i := 12) (v := ?_) rfl (by kernel_rfl) (by kernel_rfl) (by kernel_rfl) (fun _ _ _ h => h) (Or.inl ⟨by rfl, ?_⟩) hHeld ?_
                      rotate_left
                      focus (intro wq hSw; clear hSw; go_simp; try with_reducible rfl)
                      try simp only [Act.put, List.setIfInBounds_toArray, List.set_cons_zero, List.set_cons_succ]
                      refine takeL (i := 13) (v := ?_) rfl (by kernel_rfl) (by kernel_rfl) (by kernel_rfl) (fun _ _ _ h => h) (Or.inl ⟨by rfl, ?_⟩) hHeld ?_
                      rotate_left
                      focus (intro wq hSw; have hRun := hS2 wq; clear hSw; go_simp; try with_reducible rfl)
                      try simp only [Act.put, List.setIfInBounds_toArray, List.set_cons_zero, List.set_cons_succ]
                      refine takeL (i := 14) (v := ?_) rfl (by kernel_rfl) (by kernel_rfl) (by kernel_rfl) (fun _ _ _ h => h) (Or.inl ⟨by rfl, ?_⟩) hHeld ?_
                      rotate_left
                      focus (intro wq hSw; clear hSw; go_simp; try with_reducible rfl)
                      try simp only [Act.put, List.setIfInBounds_toArray, List.set_cons_zero, List.set_cons_succ]
                      refine takeL (i := 15) (v := ?_) rfl (by kernel_rfl) (by kernel_rfl) (by kernel_rfl) (fun _ _ _ h => h) (Or.inl ⟨by rfl, ?_⟩) hHeld ?_
                      rotate_left
                      focus (intro wq hSw; clear hSw; go_simp; try with_reducible rfl)
                      try simp only [Act.put, List.setIfInBounds_toArray, List.set_cons_zero, List.set_cons_succ]
                      refine wpAnyH_done (by kernel_rfl) ?_ _
                      refine NoPanic.normal ?_
                      try simp only [Exit.then]
                      clear HSz
                      have hye := rd_first (HE.out.1.below hHeld) HE.out.2
                      have HD := Lib.hid (show Old w wd from hHeld)
                      clear hHeld
                      go_wp2_with fail
                      refine (HS.out.2.2.2.2.2.1 _ (HS.out.2.2.1.below HD.out) (HS.out.2.2.2.1.below HD.out) (HS.out.2.2.2.2.1.below HD.out)).mono ?_
                      rintro e w1 ⟨A6, n6, c6, rfl, hR6, hB6⟩
                      have hn6 := hR6.len
                      rw [HS.out.2.2.2.2.2.2.1] at hn6
                      obtain ⟨g, cg, e1⟩ := hR6.form (by intro e; injection e with _ e2 _; omega)
                      injection e1 with e1 e2 e3
                      subst e1 e3
                      clear e2
                      have h06 : 0 < n6 := by omega
                      have yq := hR6.cell 0 x0 rfl
                      have fq := hR6.frozen 0
                      obtain ⟨w2, hw2⟩ : ∃ w2, w1.setCell ⟨g, 0, none⟩ (B (x0 &&& tp)) = w2 := ⟨_, rfl⟩
                      have ho2 := hR6.set_ 0 (x0 &&& tp) h06
                      have hT2 := ((Turn.refl [g] w1).setCell (p := ⟨g, 0, none⟩) (.inl (by simp)) (B (x0 &&& tp)))
                      rw [hw2] at ho2 hT2
                      have hO1 : Old w w1 := Old.trans HD.out hB6
                      have hO2 : Old w w2 := below_turn hO1 hT2 (fun x hx => by simp at hx; rw [hx]; exact Nat.le_trans HD.out.size (hR6.lt (g := g) rfl).1) hO1.size
                      have H2 := Lib.hid (And.intro (show Own w2 wd.heap.size (.slice (some ⟨g, 0, none⟩) n6 c6) ((x0 &&& tp) :: xr) from ho2) (And.intro hO2 (show n6 ≤ 1000 by have := HS.out.2.2.2.2.2.2.2.2; omega)))
                      clear hR6 hB6 ho2 hT2 hO1 hO2 hn6
                      go_wp2_with fail
                      refine (trimL_any (some ⟨g, 0, none⟩) n6 c6 _ w2 H2.out.1.rd (by have := H2.out.2.2; omega)).mono ?_
                      rintro e w3 ⟨A10, n10, c10, rfl, hR10, rfl⟩
                      rw [hTT] at hR10
                      have b9 := b7 n10 hR10.1
                      have hn10 : n10 = r.length + 1 := hR10.1
                      have h10p : 0 < n10 := by omega
                      obtain ⟨bt, ot, rfl, _⟩ := hR10.addr h10p
                      have HT := Lib.hid hR10
                      clear hR10 b7 yq fq hye hn10 hts hTT
                      go_wp2_with fail
                      refine region_old (by kernel_rfl) (fun wd hHeld hSz => ?_)
                      have HSz := Lib.hid hSz
                      clear hSz
                      refine takeL (i := 0) (v := ?_) rfl (by kernel_rfl) (by kernel_rfl) (by kernel_rfl) (fun _ _ _ h => h) (Or.inl ⟨by rfl, ?_⟩) hHeld ?_
                      rotate_left
                      focus (intro wq hSw; clear hSw; go_simp; try with_reducible rfl)
                      try simp only [Act.put, List.setIfInBounds_toArray, List.set_cons_zero, List.set_cons_succ]
                      refine takeL (i := 1) (v := ?_) rfl (by kernel_rfl) (by kernel_rfl) (by kernel_rfl) (fun _ _ _ h => h) (Or.inl ⟨by rfl, ?_⟩) hHeld ?_
                      rotate_left
                      focus (intro wq hSw; clear hSw; go_simp; try with_reducible rfl)
                      try simp only [Act.put, List.setIfInBounds_toArray, List.set_cons_zero, List.set_cons_succ]
                      refine takeL (i := 2) (v := ?_) rfl (by kernel_rfl) (by kernel_rfl) (by kernel_rfl) (fun _ _ _ h => h) (Or.inl ⟨by rfl, ?_⟩) hHeld ?_
                      rotate_left
                      focus (intro wq hSw; clear hSw; go_simp; try with_reducible rfl)
                      try simp only [Act.put, List.setIfInBounds_toArray, List.set_cons_zero, List.set_cons_succ]
                      refine takeL (i := 3) (v := ?_) rfl (by kernel_rfl) (by kernel_rfl) (by kernel_rfl) (fun _ _ _ h => h) (Or.inl ⟨by rfl, ?_⟩) hHeld ?_
                      rotate_left
                      focus (intro wq hSw; clear hSw; go_simp; try with_reducible rfl)
                      try simp only [Act.put, List.setIfInBounds_toArray, List.set_cons_zero, List.set_cons_succ]
                      refine takeL (i := 4) (v := ?_) rfl (by kernel_rfl) (by kernel_rfl) (by kernel_rfl) (fun _ _ _ h => h) (Or.inl ⟨by rfl, ?_⟩) hHeld ?_
                      rotate_left
                      focus (intro wq hSw; clear hSw; go_simp; try with_reducible rfl)
                      try simp only [Act.put, List.setIfInBounds_toArray, List.set_cons_zero, List.set_cons_succ]
                      refine takeL (i := 5) (v := .bool true) rfl (by kernel_rfl) (by kernel_rfl) (by kernel_rfl) (fun _ _ _ h => h) (Or.inl ⟨by rfl, ?_⟩) hHeld ?_
                      focus (intro wq hSw; clear hSw; go_simp; try with_reducible rfl)
                      try simp only [Act.put, List.setIfInBounds_toArray, List.set_cons_zero, List.set_cons_succ]
                      refine takeL (i := 6) (v := ?_) rfl (by kernel_rfl) (by kernel_rfl) (by kernel_rfl) (fun _ _ _ h => h) (Or.inl ⟨by rfl, ?_⟩) hHeld ?_
                      rotate_left
                      focus (intro wq hSw; clear hSw; go_simp; try with_reducible rfl)
                      try simp only [Act.put, List.setIfInBounds_toArray, List.set_cons_zero, List.set_cons_succ]
                      refine takeL (i := 7) (v := ?_) rfl (by kernel_rfl) (by kernel_rfl) (by kernel_rfl) (fun _ _ _ h => h) (Or.inl ⟨by rfl, ?_⟩) hHeld ?_
                      rotate_left
                      focus (intro wq hSw; clear hSw; go_simp; try with_reducible rfl)
                      try simp only [Act.put, List.setIfInBounds_toArray, List.set_cons_zero, List.set_cons_succ]
                      refine takeL (i := 8) (v := ?_) rfl (by kernel_rfl) (by kernel_rfl) (by kernel_rfl) (fun _ _ _ h => h) (Or.inl ⟨by rfl, ?_⟩) hHeld ?_
                      rotate_left
                      focus (intro wq hSw; have hy := rd_head (HT.out.below hSw); clear hSw; go_simp; try with_reducible rfl)
                      try simp only [Act.put, List.setIfInBounds_toArray, List.set_cons_zero, List.set_cons_succ]
                      refine takeL (i := 9) (v := ?_) rfl (by kernel_rfl) (by kernel_rfl) (by kernel_rfl) (fun _ _ _ h => h) (Or.inl ⟨by rfl, ?_⟩) hHeld ?_
                      rotate_left
                      focus (intro wq hSw; clear hSw; go_simp; try with_reducible rfl)
                      try simp only [Act.put, List.setIfInBounds_toArray, List.set_cons_zero, List.set_cons_succ]
                      refine takeL (i := 10) (v := ?_) rfl (by kernel_rfl) (by kernel_rfl) (by kernel_rfl) (fun _ _ _ h => h) (Or.inl ⟨by rfl, ?_⟩) hHeld ?_
                      rotate_left
                      focus (intro wq hSw; clear hSw; go_simp; try with_reducible rfl)
                      try simp only [Act.put, List.setIfInBounds_toArray, List.set_cons_zero, List.set_cons_succ]
                      refine takeL (i := 11) (v := .bool false) rfl (by kernel_rfl) (by kernel_rfl) (by kernel_rfl) (fun _ _ _ h => h) (Or.inl ⟨by rfl, ?_⟩) hHeld ?_
                      focus (intro wq hSw; clear hSw; go_simp; try with_reducible rfl)
                      try simp only [Act.put, List.setIfInBounds_toArray, List.set_cons_zero, List.set_cons_succ]
                      refine takeL (i := 12) (v := undef) rfl (by kernel_rfl) (by kernel_rfl) (by kernel_rfl) (fun _ _ _ h => h) (Or.inr ⟨by rfl, rfl⟩) hHeld ?_
                      try simp only [Act.put, List.setIfInBounds_toArray, List.set_cons_zero, List.set_cons_succ]
                      refine takeL (i := 13) (v := undef) rfl (by kernel_rfl) (by kernel_rfl) (by kernel_rfl) (fun _ _ _ h => h) (Or.inr ⟨by rfl, rfl⟩) hHeld ?_
                      try simp only [Act.put, List.setIfInBounds_toArray, List.set_cons_zero, List.set_cons_succ]
                      refine takeL (i := 14) (v := undef) rfl (by kernel_rfl) (by kernel_rfl) (by kernel_rfl) (fun _ _ _ h => h) (Or.inr ⟨by rfl, rfl⟩) hHeld ?_
                      try simp only [Act.put, List.setIfInBounds_toArray, List.set_cons_zero, List.set_cons_succ]
                      refine takeL (i := 15) (v := undef) rfl (by kernel_rfl) (by kernel_rfl) (by kernel_rfl) (fun _ _ _ h => h) (Or.inr ⟨by rfl, rfl⟩) hHeld ?_
                      try simp only [Act.put, List.setIfInBounds_toArray, List.set_cons_zero, List.set_cons_succ]
                      refine takeL (i := 16) (v := undef) rfl (by kernel_rfl) (by kernel_rfl) (by kernel_rfl) (fun _ _ _ h => h) (Or.inr ⟨by rfl, rfl⟩) hHeld ?_
                      try simp only [Act.put, List.setIfInBounds_toArray, List.set_cons_zero, List.set_cons_succ]
                      refine takeL (i := 17) (v := undef) rfl (by kernel_rfl) (by kernel_rfl) (by kernel_rfl) (fun _ _ _ h => h) (Or.inr ⟨by rfl, rfl⟩) hHeld ?_
                      try simp only [Act.put, List.setIfInBounds_toArray, List.set_cons_zero, List.set_cons_succ]
                      refine takeL (i := 18) (v := undef) rfl (by kernel_rfl) (by kernel_rfl) (by kernel_rfl) (fun _ _ _ h => h) (Or.inr ⟨by rfl, rfl⟩) hHeld ?_
                      try simp only [Act.put, List.setIfInBounds_toArray, List.set_cons_zero, List.set_cons_succ]
                      refine takeL (i := 19) (v := undef) rfl (by kernel_rfl) (by kernel_rfl) (by kernel_rfl) (fun _ _ _ h => h) (Or.inr ⟨by rfl, rfl⟩) hHeld ?_
                      try simp only [Act.put, List.setIfInBounds_toArray, List.set_cons_zero, List.set_cons_succ]
                      refine takeL (i := 20) (v := undef) rfl (by kernel_rfl) (by kernel_rfl) (by kernel_rfl) (fun _ _ _ h => h) (Or.inr ⟨by rfl, rfl⟩) hHeld ?_
                      try simp only [Act.put, List.setIfInBounds_toArray, List.set_cons_zero, List.set_cons_succ]
                      refine takeL (i := 21) (v := ?_) rfl (by kernel_rfl) (by kernel_rfl) (by kernel_rfl) (fun _ _ _ h => h) (Or.inl ⟨by rfl, ?_⟩) hHeld ?_
                      rotate_left
                      focus (intro wq hSw; clear hSw; go_simp; try with_reducible rfl)
                      try simp only [Act.put, List.setIfInBounds_toArray, List.set_cons_zero, List.set_cons_succ]
                      refine takeL (i := 22) (v := ?_) rfl (by kernel_rfl) (by kernel_rfl) (by kernel_rfl) (fun _ _ _ h => h) (Or.inl ⟨by rfl, ?_⟩) hHeld ?_
                      rotate_left
                      focus (intro wq hSw; clear hSw; go_simp; try with_reducible rfl)
                      try simp only [Act.put, List.setIfInBounds_toArray, List.set_cons_zero, List.set_cons_succ]
                      refine wpAnyH_done (by kernel_rfl) ?_ _
                      refine NoPanic.normal ?_
                      try simp only [Exit.then]
                      go_wp2_with fail
                      go_ret
                      exact ⟨rfl, Old.trans H2.out.2.1 hHeld⟩
                · have b7 : ∀ n : Nat, n = TT.length → ((n : Int) == s1) = false := fun n h => by rw [← Bool.not_eq_true, beq_iff_eq]; omega
                  refine bres_no (fun h => by obtain ⟨s, h, h2, _⟩ := h.2.2.2.2.2; rw [h, List.length_cons, h2] at e1; exact e1 rfl) ?_
                  clear d3 d4 d5 d6 hxe hp hki e1 hl1 hm1k d2 hk200
                  go_enter Tryd.func22, Tryd.ntmps22
                  go_wp2_with fail
                  refine HS.out.1.mono ?_
                  rintro e w' ⟨rfl, rfl⟩
                  go_wp2_with fail
                  refine (HS.out.2.1 _).mono ?_
                  rintro e w' ⟨rfl, rfl⟩
                  go_wp2_with fail
                  refine region_old (by kernel_rfl) (fun wd hHeld hSz => ?_)
                  have HSz := Lib.hid hSz
                  clear hSz
                  refine takeL (i := 0) (v := ?_) rfl (by kernel_rfl) (by kernel_rfl) (by kernel_rfl) (fun _ _ _ h => h) (Or.inl ⟨by rfl, ?_⟩) hHeld ?_
                  rotate_left
                  focus (intro wq hSw; clear hSw; go_simp; try with_reducible rfl)
                  try simp only [Act.put, List.setIfInBounds_toArray, List.set_cons_zero, List.set_cons_succ]
                  refine takeL (i := 1) (v := ?_) rfl (by kernel_rfl) (by kernel_rfl) (by kernel_rfl) (fun _ _ _ h => h) (Or.inl ⟨by rfl, ?_⟩) hHeld ?_
                  rotate_left
                  focus (intro wq hSw; clear hSw; go_simp; try with_reducible rfl)
                  try simp only [Act.put, List.setIfInBounds_toArray, List.set_cons_zero, List.set_cons_succ]
                  refine takeL (i := 2) (v := ?_) rfl (by kernel_rfl) (by kernel_rfl) (by kernel_rfl) (fun _ _ _ h => h) (Or.inl ⟨by rfl, ?_⟩) hHeld ?_
                  rotate_left
                  focus (intro wq hSw; clear hSw; go_simp; try with_reducible rfl)
                  try simp only [Act.put, List.setIfInBounds_toArray, List.set_cons_zero, List.set_cons_succ]
                  refine takeL (i := 3) (v := ?_) rfl (by kernel_rfl) (by kernel_rfl) (by kernel_rfl) (fun _ _ _ h => h) (Or.inl ⟨by rfl, ?_⟩) hHeld ?_
                  rotate_left
                  focus (intro wq hSw; clear hSw; go_simp; try with_reducible rfl)
                  try simp only [Act.put, List.setIfInBounds_toArray, List.set_cons_zero, List.set_cons_succ]
                  refine takeL (i := 4) (v := ?_) rfl (by kernel_rfl) (by kernel_rfl) (by kernel_rfl) (fun _ _ _ h => h) (Or.inl ⟨by rfl, ?_⟩) hHeld ?_
                  rotate_left
                  focus (intro wq hSw; clear hSw; go_simp; try with_reducible rfl)
                  try simp only [Act.put, List.setIfInBounds_toArray, List.set_cons_zero, List.set_cons_succ]
                  refine takeL (i := 5) (v := ?_) rfl (by kernel_rfl) (by kernel_rfl) (by kernel_rfl) (fun _ _ _ h => h) (Or.inl ⟨by rfl, ?_⟩) hHeld ?_
                  rotate_left
                  focus (intro wq hSw; have hRun := hS1 wq; clear hSw; go_simp; try with_reducible rfl)
                  try simp only [Act.put, List.setIfInBounds_toArray, List.set_cons_zero, List.set_cons_succ]
                  refine takeL (i := 6) (v := ?_) rfl (by kernel_rfl) (by kernel_rfl) (by kernel_rfl) (fun _ _ _ h => h) (Or.inl ⟨by rfl, ?_⟩) hHeld ?_
                  rotate_left
                  focus (intro wq hSw; clear hSw; go_simp; try with_reducible rfl)
                  try simp only [Act.put, List.setIfInBounds_toArray, List.set_cons_zero, List.set_cons_succ]
                  refine takeL (i := 7) (v := ?_) rfl (by kernel_rfl) (by kernel_rfl) (by kernel_rfl) (fun _ _ _ h => h) (Or.inl ⟨by rfl, ?_⟩) hHeld ?_
                  rotate_left
                  focus (intro wq hSw; clear hSw; go_simp; try with_reducible rfl)
                  try simp only [Act.put, List.setIfInBounds_toArray, List.set_cons_zero, List.set_cons_succ]
                  refine takeL (i := 8) (v := ?_) rfl (by kernel_rfl) (by kernel_rfl) (by kernel_rfl) (fun _ _ _ h => h) (Or.inl ⟨by rfl, ?_⟩) hHeld ?_
                  rotate_left
                  focus (intro wq hSw; clear hSw; go_simp; try with_reducible rfl)
                  try simp only [Act.put, List.setIfInBounds_toArray, List.set_cons_zero, List.set_cons_succ]
                  refine takeL (i := 9) (v := ?_) rfl (by kernel_rfl) (by kernel_rfl) (by kernel_rfl) (fun _ _ _ h => h) (Or.inl ⟨by rfl, ?_⟩) hHeld ?_
                  rotate_left
                  focus (intro wq hSw; clear hSw; go_simp; try with_reducible rfl)
                  try simp only [Act.put, List.setIfInBounds_toArray, List.set_cons_zero, List.set_cons_succ]
                  refine takeL (i := 10) (v := ?_) rfl (by kernel_rfl) (by kernel_rfl) (by kernel_rfl) (fun _ _ _ h => h) (Or.inl ⟨by rfl, ?_⟩) hHeld ?_
                  rotate_left
                  focus (intro wq hSw; clear hSw; go_simp; try with_reducible rfl)
                  try simp only [Act.put, List.setIfInBounds_toArray, List.set_cons_zero, List.set_cons_succ]
                  refine takeL (i := 11) (v := ?_) rfl (by kernel_rfl) (by kernel_rfl) (by kernel_rfl) (fun _ _ _ h => h) (Or.inl ⟨by rfl, ?_⟩) hHeld ?_
                  rotate_left
                  focus (intro wq hSw; clear hSw; go_simp; try with_reducible rfl)
                  try simp only [Act.put, List.setIfInBounds_toArray, List.set_cons_zero, List.set_cons_succ]
                  refine takeL (i := 12) (v := ?_) rfl (by kernel_rfl) (by kernel_rfl) (by kernel_rfl) (fun _ _ _ h => h) (Or.inl ⟨by rfl, ?_⟩) hHeld ?_
                  rotate_left
                  focus (intro wq hSw; clear hSw; go_simp; try with_reducible rfl)
                  try simp only [Act.put, List.setIfInBounds_toArray, List.set_cons_zero, List.set_cons_succ]
                  refine takeL (i := 13) (v := ?_) rfl (by kernel_rfl) (by kernel_rfl) (by kernel_rfl) (fun _ _ _ h => h) (Or.inl ⟨by rfl, ?_⟩) hHeld ?_
                  rotate_left
                  focus (intro wq hSw; have hRun := hS2 wq; clear hSw; go_simp; try with_reducible rfl)
                  try simp only [Act.put, List.setIfInBounds_toArray, List.set_cons_zero, List.set_cons_succ]
                  refine takeL (i := 14) (v := ?_) rfl (by kernel_rfl) (by kernel_rfl) (by kernel_rfl) (fun _ _ _ h => h) (Or.inl ⟨by rfl, ?_⟩) hHeld ?_
                  rotate_left
                  focus (intro wq hSw; clear hSw; go_simp; try with_reducible rfl)
                  try simp only [Act.put, List.setIfInBounds_toArray, List.set_cons_zero, List.set_cons_succ]
                  refine takeL (i := 15) (v := ?_) rfl (by kernel_rfl) (by kernel_rfl) (by kernel_rfl) (fun _ _ _ h => h) (Or.inl ⟨by rfl, ?_⟩) hHeld ?_
                  rotate_left
                  focus (intro wq hSw; clear hSw; go_simp; try with_reducible rfl)
                  try simp only [Act.put, List.setIfInBounds_toArray, List.set_cons_zero, List.set_cons_succ]
                  refine wpAnyH_done (by kernel_rfl) ?_ _
                  refine NoPanic.normal ?_
                  try simp only [Exit.then]
                  clear HSz
                  have hye := rd_first (HE.out.1.below hHeld) HE.out.2
                  have HD := Lib.hid (show Old w wd from hHeld)
                  clear hHeld
                  go_wp2_with fail
                  refine (HS.out.2.2.2.2.2.1 _ (HS.out.2.2.1.below HD.out) (HS.out.2.2.2.1.below HD.out) (HS.out.2.2.2.2.1.below HD.out)).mono ?_
                  rintro e w1 ⟨A6, n6, c6, rfl, hR6, hB6⟩
                  have hn6 := hR6.len
                  rw [HS.out.2.2.2.2.2.2.1] at hn6
                  obtain ⟨g, cg, e1⟩ := hR6.form (by intro e; injection e with _ e2 _; omega)
                  injection e1 with e1 e2 e3
                  subst e1 e3
                  clear e2
                  have h06 : 0 < n6 := by omega
                  have yq := hR6.cell 0 x0 rfl
                  have fq := hR6.frozen 0
                  obtain ⟨w2, hw2⟩ : ∃ w2, w1.setCell ⟨g, 0, none⟩ (B (x0 &&& tp)) = w2 := ⟨_, rfl⟩
                  have ho2 := hR6.set_ 0 (x0 &&& tp) h06
                  have hT2 := ((Turn.refl [g] w1).setCell (p := ⟨g, 0, none⟩) (.inl (by simp)) (B (x0 &&& tp)))
                  rw [hw2] at ho2 hT2
                  have hO1 : Old w w1 := Old.trans HD.out hB6
                  have hO2 : Old w w2 := below_turn hO1 hT2 (fun x hx => by simp at hx; rw [hx]; exact Nat.le_trans HD.out.size (hR6.lt (g := g) rfl).1) hO1.size
                  have H2 := Lib.hid (And.intro (show Own w2 wd.heap.size (.slice (some ⟨g, 0, none⟩) n6 c6) ((x0 &&& tp) :: xr) from ho2) (And.intro hO2 (show n6 ≤ 1000 by have := HS.out.2.2.2.2.2.2.2.2; omega)))
                  clear hR6 hB6 ho2 hT2 hO1 hO2 hn6
                  go_wp2_with fail
                  refine (trimL_any (some ⟨g, 0, none⟩) n6 c6 _ w2 H2.out.1.rd (by have := H2.out.2.2; omega)).mono ?_
                  rintro e w3 ⟨A10, n10, c10, rfl, hR10, rfl⟩
                  rw [hTT] at hR10
                  have b9 := b7 n10 hR10.1
                  clear hR10 b7 yq fq hye hts hTT
                  go_wp2_with fail
                  refine region_old (by kernel_rfl) (fun wd hHeld hSz => ?_)
                  have HSz := Lib.hid hSz
                  clear hSz
                  refine takeL (i := 0) (v := ?_) rfl (by kernel_rfl) (by kernel_rfl) (by kernel_rfl) (fun _ _ _ h => h) (Or.inl ⟨by rfl, ?_⟩) hHeld ?_
                  rotate_left
                  focus (intro wq hSw; clear hSw; go_simp; try with_reducible rfl)
                  try simp only [Act.put, List.setIfInBounds_toArray, List.set_cons_zero, List.set_cons_succ]
                  refine takeL (i := 1) (v := ?_) rfl (by kernel_rfl) (by kernel_rfl) (by kernel_rfl) (fun _ _ _ h => h) (Or.inl ⟨by rfl, ?_⟩) hHeld ?_
                  rotate_left
                  focus (intro wq hSw; clear hSw; go_simp; try with_reducible rfl)
                  try simp only [Act.put, List.setIfInBounds_toArray, List.set_cons_zero, List.set_cons_succ]
                  refine takeL (i := 2) (v := ?_) rfl (by kernel_rfl) (by kernel_rfl) (by kernel_rfl) (fun _ _ _ h => h) (Or.inl ⟨by rfl, ?_⟩) hHeld ?_
                  rotate_left
                  focus (intro wq hSw; clear hSw; go_simp; try with_reducible rfl)
                  try simp only [Act.put, List.setIfInBounds_toArray, List.set_cons_zero, List.set_cons_succ]
                  refine takeL (i := 3) (v := ?_) rfl (by kernel_rfl) (by kernel_rfl) (by kernel_rfl) (fun _ _ _ h => h) (Or.inl ⟨by rfl, ?_⟩) hHeld ?_
                  rotate_left
                  focus (intro wq hSw; clear hSw; go_simp; try with_reducible rfl)
                  try simp only [Act.put, List.setIfInBounds_toArray, List.set_cons_zero, List.set_cons_succ]
                  refine takeL (i := 4) (v := ?_) rfl (by kernel_rfl) (by kernel_rfl) (by kernel_rfl) (fun _ _ _ h => h) (Or.inl ⟨by rfl, ?_⟩) hHeld ?_
                  rotate_left
                  focus (intro wq hSw; clear hSw; go_simp; try with_reducible rfl)
                  try simp only [Act.put, List.setIfInBounds_toArray, List.set_cons_zero, List.set_cons_succ]
                  refine takeL (i := 5) (v := .bool false) rfl (by kernel_rfl) (by kernel_rfl) (by kernel_rfl) (fun _ _ _ h => h) (Or.inl ⟨by rfl, ?_⟩) hHeld ?_
                  focus (intro wq hSw; clear hSw; go_simp; try with_reducible rfl)
                  try simp only [Act.put, List.setIfInBounds_toArray, List.set_cons_zero, List.set_cons_succ]
                  refine takeL (i := 6) (v := undef) rfl (by kernel_rfl) (by kernel_rfl) (by kernel_rfl) (fun _ _ _ h => h) (Or.inr ⟨by rfl, rfl⟩) hHeld ?_
                  try simp only [Act.put, List.setIfInBounds_toArray, List.set_cons_zero, List.set_cons_succ]
                  refine takeL (i := 7) (v := undef) rfl (by kernel_rfl) (by kernel_rfl) (by kernel_rfl) (fun _ _ _ h => h) (Or.inr ⟨by rfl, rfl⟩) hHeld ?_
                  try simp only [Act.put, List.setIfInBounds_toArray, List.set_cons_zero, List.set_cons_succ]
                  refine takeL (i := 8) (v := undef) rfl (by kernel_rfl) (by kernel_rfl) (by kernel_rfl) (fun _ _ _ h => h) (Or.inr ⟨by rfl, rfl⟩) hHeld ?_
                  try simp only [Act.put, List.setIfInBounds_toArray, List.set_cons_zero, List.set_cons_succ]
                  refine takeL (i := 9) (v := undef) rfl (by kernel_rfl) (by kernel_rfl) (by kernel_rfl) (fun _ _ _ h => h) (Or.inr ⟨by rfl, rfl⟩) hHeld ?_
                  try simp only [Act.put, List.setIfInBounds_toArray, List.set_cons_zero, List.set_cons_succ]
                  refine takeL (i := 10) (v := ?_) rfl (by kernel_rfl) (by kernel_rfl) (by kernel_rfl) (fun _ _ _ h => h) (Or.inl ⟨by rfl, ?_⟩) hHeld ?_
                  rotate_left
                  focus (intro wq hSw; clear hSw; go_simp; try with_reducible rfl)
                  try simp only [Act.put, List.setIfInBounds_toArray, List.set_cons_zero, List.set_cons_succ]
                  refine takeL (i := 11) (v := .bool false) rfl (by kernel_rfl) (by kernel_rfl) (by kernel_rfl) (fun _ _ _ h => h) (Or.inl ⟨by rfl, ?_⟩) hHeld ?_
                  focus (intro wq hSw; clear hSw; go_simp; try with_reducible rfl)
                  try simp only [Act.put, List.setIfInBounds_toArray, List.set_cons_zero, List.set_cons_succ]
                  refine takeL (i := 12) (v := undef) rfl (by kernel_rfl) (by kernel_rfl) (by kernel_rfl) (fun _ _ _ h => h) (Or.inr ⟨by rfl, rfl⟩) hHeld ?_
                  try simp only [Act.put, List.setIfInBounds_toArray, List.set_cons_zero, List.set_cons_succ]
                  refine takeL (i := 13) (v := undef) rfl (by kernel_rfl) (by kernel_rfl) (by kernel_rfl) (fun _ _ _ h => h) (Or.inr ⟨by rfl, rfl⟩) hHeld ?_
                  try simp only [Act.put, List.setIfInBounds_toArray, List.set_cons_zero, List.set_cons_succ]
                  refine takeL (i := 14) (v := undef) rfl (by kernel_rfl) (by kernel_rfl) (by kernel_rfl) (fun _ _ _ h => h) (Or.inr ⟨by rfl, rfl⟩) hHeld ?_
                  try simp only [Act.put, List.setIfInBounds_toArray, List.set_cons_zero, List.set_cons_succ]
                  refine takeL (i := 15) (v := undef) rfl (by kernel_rfl) (by kernel_rfl) (by kernel_rfl) (fun _ _ _ h => h) (Or.inr ⟨by rfl, rfl⟩) hHeld ?_
                  try simp only [Act.put, List.setIfInBounds_toArray, List.set_cons_zero, List.set_cons_succ]
                  refine takeL (i := 16) (v := undef) rfl (by kernel_rfl) (by kernel_rfl) (by kernel_rfl) (fun _ _ _ h => h) (Or.inr ⟨by rfl, rfl⟩) hHeld ?_
                  try simp only [Act.put, List.setIfInBounds_toArray, List.set_cons_zero, List.set_cons_succ]
                  refine takeL (i := 17) (v := undef) rfl (by kernel_rfl) (by kernel_rfl) (by kernel_rfl) (fun _ _ _ h => h) (Or.inr ⟨by rfl, rfl⟩) hHeld ?_
                  try simp only [Act.put, List.setIfInBounds_toArray, List.set_cons_zero, List.set_cons_succ]
                  refine takeL (i := 18) (v := undef) rfl (by kernel_rfl) (by kernel_rfl) (by kernel_rfl) (fun _ _ _ h => h) (Or.inr ⟨by rfl, rfl⟩) hHeld ?_
                  try simp only [Act.put, List.setIfInBounds_toArray, List.set_cons_zero, List.set_cons_succ]
                  refine takeL (i := 19) (v := undef) rfl (by kernel_rfl) (by kernel_rfl) (by kernel_rfl) (fun _ _ _ h => h) (Or.inr ⟨by rfl, rfl⟩) hHeld ?_
                  try simp only [Act.put, List.setIfInBounds_toArray, List.set_cons_zero, List.set_cons_succ]
                  refine takeL (i := 20) (v := undef) rfl (by kernel_rfl) (by kernel_rfl) (by kernel_rfl) (fun _ _ _ h => h) (Or.inr ⟨by rfl, rfl⟩) hHeld ?_
                  try simp only [Act.put, List.setIfInBounds_toArray, List.set_cons_zero, List.set_cons_succ]
                  refine takeL (i := 21) (v := ?_) rfl (by kernel_rfl) (by kernel_rfl) (by kernel_rfl) (fun _ _ _ h => h) (Or.inl ⟨by rfl, ?_⟩) hHeld ?_
                  rotate_left
                  focus (intro wq hSw; clear hSw; go_simp; try with_reducible rfl)
                  try simp only [Act.put, List.setIfInBounds_toArray, List.set_cons_zero, List.set_cons_succ]
                  refine takeL (i := 22) (v := ?_) rfl (by kernel_rfl) (by kernel_rfl) (by kernel_rfl) (fun _ _ _ h => h) (Or.inl ⟨by rfl, ?_⟩) hHeld ?_
                  rotate_left
                  focus (intro wq hSw; clear hSw; go_simp; try with_reducible rfl)
                  try simp only [Act.put, List.setIfInBounds_toArray, List.set_cons_zero, List.set_cons_succ]
                  refine wpAnyH_done (by kernel_rfl) ?_ _
                  refine NoPanic.normal ?_
                  try simp only [Exit.then]
                  go_wp2_with fail
                  go_ret
                  exact ⟨rfl, Old.trans H2.out.2.1 hHeld⟩
            · have b6 : isN (xe &&& ~~~tp) 0 = false := by rw [← Bool.not_eq_true, isN_iff _ 0 0 rfl (by omega)]; exact d6
              refine bres_no (fun h => absurd h.2.2.2.2.1 d6) ?_
              have HS := Lib.hid (And.intro hps hszc)
              clear h1 h3 hK hl1 hl3 hb hps hszc hR1 hR2 hp1 hxl hxe gl ge d5 d6 hn hb8 hb9 hB1 hB2 hp hN hVX hVH hki hkn hn188 hN64 hN1 hm1 hnI d1 d2 d3 d4 htp
              go_enter Tryd.func22, Tryd.ntmps22
              go_wp2_with fail
              refine HS.out.1.mono ?_
              rintro e w' ⟨rfl, rfl⟩
              go_wp2_with fail
              refine (HS.out.2 _).mono ?_
              rintro e w' ⟨rfl, rfl⟩
              go_wp2_with fail
              refine region_old (by kernel_rfl) (fun wd hHeld hSz => ?_)
              have HSz := Lib.hid hSz
              clear hSz
              refine takeL (i := 0) (v := ?_) rfl (by kernel_rfl) (by kernel_rfl) (by kernel_rfl) (fun _ _ _ h => h) (Or.inl ⟨by rfl, ?_⟩) hHeld ?_
              rotate_left
              focus (intro wq hSw; clear hSw; go_simp; try with_reducible rfl)
              try simp only [Act.put, List.setIfInBounds_toArray, List.set_cons_zero, List.set_cons_succ]
              refine takeL (i := 1) (v := ?_) rfl (by kernel_rfl) (by kernel_rfl) (by kernel_rfl) (fun _ _ _ h => h) (Or.inl ⟨by rfl, ?_⟩) hHeld ?_
              rotate_left
              focus (intro wq hSw; clear hSw; go_simp; try with_reducible rfl)
              try simp only [Act.put, List.setIfInBounds_toArray, List.set_cons_zero, List.set_cons_succ]
              refine takeL (i := 2) (v := ?_) rfl (by kernel_rfl) (by kernel_rfl) (by kernel_rfl) (fun _ _ _ h => h) (Or.inl ⟨by rfl, ?_⟩) hHeld ?_
              rotate_left
              focus (intro wq hSw; clear hSw; go_simp; try with_reducible rfl)
              try simp only [Act.put, List.setIfInBounds_toArray, List.set_cons_zero, List.set_cons_succ]
              refine takeL (i := 3) (v := ?_) rfl (by kernel_rfl) (by kernel_rfl) (by kernel_rfl) (fun _ _ _ h => h) (Or.inl ⟨by rfl, ?_⟩) hHeld ?_
              rotate_left
              focus (intro wq hSw; clear hSw; go_simp; try with_reducible rfl)
              try simp only [Act.put, List.setIfInBounds_toArray, List.set_cons_zero, List.set_cons_succ]
              refine takeL (i := 4) (v := ?_) rfl (by kernel_rfl) (by kernel_rfl) (by kernel_rfl) (fun _ _ _ h => h) (Or.inl ⟨by rfl, ?_⟩) hHeld ?_
              rotate_left
              focus (intro wq hSw; clear hSw; go_simp; try with_reducible rfl)
              try simp only [Act.put, List.setIfInBounds_toArray, List.set_cons_zero, List.set_cons_succ]
              refine takeL (i := 5) (v := ?_) rfl (by kernel_rfl) (by kernel_rfl) (by kernel_rfl) (fun _ _ _ h => h) (Or.inl ⟨by rfl, ?_⟩) hHeld ?_
              rotate_left
              focus (intro wq hSw; have hRun := hS1 wq; clear hSw; go_simp; try with_reducible rfl)
              try simp only [Act.put, List.setIfInBounds_toArray, List.set_cons_zero, List.set_cons_succ]
              refine takeL (i := 6) (v := ?_) rfl (by kernel_rfl) (by kernel_rfl) (by kernel_rfl) (fun _ _ _ h => h) (Or.inl ⟨by rfl, ?_⟩) hHeld ?_
              rotate_left
              focus (intro wq hSw; clear hSw; go_simp; try with_reducible rfl)
              try simp only [Act.put, List.setIfInBounds_toArray, List.set_cons_zero, List.set_cons_succ]
              refine takeL (i := 7) (v := ?_) rfl (by kernel_rfl) (by kernel_rfl) (by kernel_rfl) (fun _ _ _ h => h) (Or.inl ⟨by rfl, ?_⟩) hHeld ?_
              rotate_left
              focus (intro wq hSw; clear hSw; go_simp; try with_reducible rfl)
              try simp only [Act.put, List.setIfInBounds_toArray, List.set_cons_zero, List.set_cons_succ]
              refine takeL (i := 8) (v := ?_) rfl (by kernel_rfl) (by kernel_rfl) (by kernel_rfl) (fun _ _ _ h => h) (Or.inl ⟨by rfl, ?_⟩) hHeld ?_
              rotate_left
              focus (intro wq hSw; clear hSw; go_simp; try with_reducible rfl)
              try simp only [Act.put, List.setIfInBounds_toArray, List.set_cons_zero, List.set_cons_succ]
              refine takeL (i := 9) (v := ?_) rfl (by kernel_rfl) (by kernel_rfl) (by kernel_rfl) (fun _ _ _ h => h) (Or.inl ⟨by rfl, ?_⟩) hHeld ?_
              rotate_left
              focus (intro wq hSw; clear hSw; go_simp; try with_reducible rfl)
              try simp only [Act.put, List.setIfInBounds_toArray, List.set_cons_zero, List.set_cons_succ]
              refine takeL (i := 10) (v := ?_) rfl (by kernel_rfl) (by kernel_rfl) (by kernel_rfl) (fun _ _ _ h => h) (Or.inl ⟨by rfl, ?_⟩) hHeld ?_
              rotate_left
              focus (intro wq hSw; clear hSw; go_simp; try with_reducible rfl)
              try simp only [Act.put, List.setIfInBounds_toArray, List.set_cons_zero, List.set_cons_succ]
              refine takeL (i := 11) (v := ?_) rfl (by kernel_rfl) (by kernel_rfl) (by kernel_rfl) (fun _ _ _ h => h) (Or.inl ⟨by rfl, ?_⟩) hHeld ?_
              rotate_left
              focus (intro wq hSw; clear hSw; go_simp; try with_reducible rfl)
              try simp only [Act.put, List.setIfInBounds_toArray, List.set_cons_zero, List.set_cons_succ]
              refine takeL (i := 12) (v := ?_) rfl (by kernel_rfl) (by kernel_rfl) (by kernel_rfl) (fun _ _ _ h => h) (Or.inl ⟨by rfl, ?_⟩) hHeld ?_
              rotate_left
              focus (intro wq hSw; clear hSw; go_simp; try with_reducible rfl)
              try simp only [Act.put, List.setIfInBounds_toArray, List.set_cons_zero, List.set_cons_succ]
              refine takeL (i := 13) (v := ?_) rfl (by kernel_rfl) (by kernel_rfl) (by kernel_rfl) (fun _ _ _ h => h) (Or.inl ⟨by rfl, ?_⟩) hHeld ?_
              rotate_left
              focus (intro wq hSw; have hRun := hS2 wq; clear hSw; go_simp; try with_reducible rfl)
              try simp only [Act.put, List.setIfInBounds_toArray, List.set_cons_zero, List.set_cons_succ]
              refine takeL (i := 14) (v := ?_) rfl (by kernel_rfl) (by kernel_rfl) (by kernel_rfl) (fun _ _ _ h => h) (Or.inl ⟨by rfl, ?_⟩) hHeld ?_
              rotate_left
              focus (intro wq hSw; clear hSw; go_simp; try with_reducible rfl)
              try simp only [Act.put, List.setIfInBounds_toArray, List.set_cons_zero, List.set_cons_succ]
              refine takeL (i := 15) (v := ?_) rfl (by kernel_rfl) (by kernel_rfl) (by kernel_rfl) (fun _ _ _ h => h) (Or.inl ⟨by rfl, ?_⟩) hHeld ?_
              rotate_left
              focus (intro wq hSw; clear hSw; go_simp; try with_reducible rfl)
              try simp only [Act.put, List.setIfInBounds_toArray, List.set_cons_zero, List.set_cons_succ]
              refine wpAnyH_done (by kernel_rfl) ?_ _
              refine NoPanic.normal ?_
              try simp only [Exit.then]
              clear HSz
              have hye := rd_first (HE.out.1.below hHeld) HE.out.2
              have HD := Lib.hid hHeld
              clear hHeld
              go_wp2_with fail
              go_ret
              exact ⟨rfl, HD.out⟩
          · have b5 : isN xl 188 = false := by rw [← Bool.not_eq_true, isN_iff xl 188 188 rfl (by omega)]; exact d5
            refine bres_no (fun h => absurd h.2.2.2.1 d5) ?_
            have HS := Lib.hid hps
            clear h1 h3 hK hl1 hl3 hb hps hszc hp1 hxl hxe gl ge d5 hn hb8 hb9 hB1 hB2 hp hN hki hm1 hnI d1 d2 d3 d4 hn188 hN64 hN1
            go_enter Tryd.func22, Tryd.ntmps22
            go_wp2_with fail
            refine HS.out.mono ?_
            rintro e w' ⟨rfl, rfl⟩
            go_wp2_with fail
            go_ret
            exact ⟨rfl, Old.refl _⟩
        · have b4 : ((m3 : Int) != nI) = true := by rw [← hnI]; simp; omega
          refine bres_no (fun h => absurd h.2.2.1 d4) ?_
          have HS := Lib.hid hps
          clear h1 h3 hK hl1 hl3 hb hps hszc hN hN1 hN64 hm1 hB1 hB2 hp hn hb8 hb9 hn188 hki hnI d1 d2 d3 d4
          go_enter Tryd.func22, Tryd.ntmps22
          go_wp2_with fail
          refine HS.out.mono ?_
          rintro e w' ⟨rfl, rfl⟩
          go_wp2_with fail
          go_ret
          exact ⟨rfl, Old.refl _⟩
      · obtain ⟨a, r, hp⟩ : ∃ a r, pssF kind bits m1 sn = (a, r) := ⟨_, _, rfl⟩
        rw [hp] at hps d3 ⊢
        have b3 : (r != 0) = true := by simpa using d3
        refine bres_no (fun h => absurd h.2.1 d3) ?_
        have HS := Lib.hid hps
        clear h1 h3 hK hl1 hl3 hb hps hp
        go_enter Tryd.func22, Tryd.ntmps22
        go_wp2_with fail
        refine HS.out.mono ?_
        rintro e w' ⟨rfl, rfl⟩
        go_wp2_with fail
        go_ret
        exact ⟨rfl, Old.refl _⟩
end Go.Proofs.YtddemlajfbagdaaDoor
