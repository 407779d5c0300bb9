/-
  The law AuditTaken, walked: a log out of which a line was taken, or in which two changed places, is not taken whole.
-/
import Derived.Test.YtpccmcpeijmekaaDoorAudS
namespace Go.Proofs.YtpccmcpeijmekaaDoor
open Go.RowKit

theorem swap_ne (I J : Nat) (h : I ≠ J) : ∃ x, swapAt I J (min I J) = x ∧ x ≠ min I J := by
  refine ⟨_, rfl, ?_⟩
  unfold swapAt
  split
  · omega
  · split <;> omega
set_option maxRecDepth 100000 in
set_option maxHeartbeats 4000000 in
theorem auditTaken_walk (A : Option Addr) (m c : Nat) (es : List RawE) (i j : Int) (w : World) (he : EntsAt w A m es) (hm : m ≤ maxLen) (hK : KAt w) :
    Calls Tryd.prog 4 #[.slice A m c, .int .i64 i, .int .i64 j] w (LawRes w) := by
  have HH := Lib.hid (And.intro he hK)
  clear he hK hm
  obtain ⟨es', hes⟩ : ∃ es', okOf (es.take (min m 8)) = es' := ⟨_, rfl⟩
  have hok : ∀ e ∈ es', e.ok := by rw [← hes]; exact okOf_ok _
  have hlen8 : es'.length ≤ 8 := by rw [← hes]; exact Nat.le_trans (okTo_len es _) (Nat.min_le_right _ _)
  have hlg : logTo es (min m 8) = chainOf (rof 3) es' := by unfold logTo; rw [hes]
  obtain ⟨q, hq⟩ : ∃ q, es'.length = q := ⟨_, rfl⟩
  have hlgl := chainOf_len (H := rof 3) rof3_len es'
  have HE := Lib.hid (And.intro hok (And.intro hlen8 (And.intro hlg (And.intro hq hlgl))))
  have hq8 : q ≤ 8 := by omega
  have hqi : (q : Int) ≤ 8 := by omega
  clear hok hlen8 hlg hlgl hes hq
  go_enter Tryd.func4, Tryd.ntmps4
  go_wp2_with (go_at_call 6; refine (begun_any _ HH.out.2).mono ?_; rintro e wx ⟨rfl, hbx⟩; have HB := Lib.hid hbx; clear hbx)
  have hC : Calls Tryd.prog 13 #[.slice A m c, .int .i64 8] wx (RowRes wx (chainOf (rof 3) es')) := by
    have := chain_any A m c 8 es wx (HH.out.1.old HB.out) (by omega)
    rw [HE.out.2.2.1] at this
    exact this
  have HC := Lib.hid hC
  clear hC
  refine HC.out.mono ?_
  rintro en w1 ⟨A0, n0, c0, rfl, hO0, hb0⟩
  have hn0 : n0 = q * 52 := by rw [hO0.len, HE.out.2.2.2.2, HE.out.2.2.2.1]; omega
  have H1 := Lib.hid (And.intro hO0.rd (And.intro (Old.trans HB.out hb0) hn0))
  have hnq : (n0 : Int) / 52 = q := by omega
  have hn0i : (n0 : Int) ≤ 416 := by omega
  clear hO0 hb0 hn0
  by_cases hin : 0 ≤ i ∧ 0 ≤ j ∧ i < q ∧ j < q ∧ i ≠ j
  rotate_left
  · have hcase : i < 0 ∨ (0 ≤ i ∧ j < 0) ∨ (0 ≤ i ∧ 0 ≤ j ∧ (q : Int) ≤ i) ∨ (0 ≤ i ∧ 0 ≤ j ∧ i < q ∧ (q : Int) ≤ j) ∨ (0 ≤ i ∧ 0 ≤ j ∧ i < q ∧ j < q ∧ i = j) := by omega
    clear hin
    rcases hcase with h1 | ⟨h1, h2⟩ | ⟨h1, h2, h3⟩ | ⟨h1, h2, h3, h4⟩ | ⟨h1, h2, h3, h4, h5⟩
    rotate_right
    · subst h5
      go_wp2
      go_ret
      exact ⟨rfl, H1.out.2.1⟩
    all_goals
      go_wp2
      go_ret
      exact ⟨rfl, H1.out.2.1⟩
  · obtain ⟨hi0, hj0, hiq, hjq, hij⟩ := hin
    obtain ⟨I, rfl⟩ := Int.eq_ofNat_of_zero_le hi0
    obtain ⟨J, rfl⟩ := Int.eq_ofNat_of_zero_le hj0
    have hIJ : I ≠ J := by omega
    have hIq : I < q := by omega
    have hJq : J < q := by omega
    have x1 : decide ((I : Int) < 0) = false := decide_eq_false (by omega)
    have x2 : decide ((J : Int) < 0) = false := decide_eq_false (by omega)
    have x6 : ((I : Int) == (J : Int)) = false := by rw [beq_eq_false_iff_ne]; exact hij
    have x3 : ¬ ((q : Int) ≤ I) := by omega
    have x4 : ¬ ((q : Int) ≤ J) := by omega
    have x5 : ¬ ((I : Int) = J) := by omega
    have y3 : ¬ (q ≤ I) := by omega
    have y4 : ¬ (q ≤ J) := by omega
    have y5 : ¬ (I = J) := hIJ
    have HIJ := Lib.hid (And.intro hIJ (And.intro hIq hJq))
    clear hIJ hIq hJq hij
    go_wp2
    obtain ⟨lg, hlg⟩ : ∃ lg, chainOf (rof 3) es' = lg := ⟨_, rfl⟩
    have H2 := Lib.hid (And.intro (show Rd w1 A0 n0 c0 lg by rw [← hlg]; exact H1.out.1) hlg)
    clear hlg
    go_loopw [10, 11, 12] (fun v u kk wr => ∃ (k n1 c1 n2 c2 : Nat) (A1 A2 : Option Addr), k ≤ q ∧ kk = .int .i64 (k : Nat) ∧ v = .slice A1 n1 c1 ∧ u = .slice A2 n2 c2 ∧ Own wr w1.heap.size (.slice A1 n1 c1) (sel lg (lessIdx I k)) ∧ Own wr w1.heap.size (.slice A2 n2 c2) (sel lg (swapIdx I J k)) ∧ (∀ g, (Value.slice A1 n1 c1).ownBlock = some g → (Value.slice A2 n2 c2).ownBlock ≠ some g) ∧ Below w1.heap.size w1 wr) (fun _ _ kk _ => q - (intOf kk).toNat)
    case atStart => exact ⟨0, 0, 0, 0, 0, none, none, by omega, rfl, rfl, rfl, Own.nil _ _, Own.nil _ _, fun g hg => by simp [Value.ownBlock] at hg, Below.refl _ _⟩
    case round =>
      obtain ⟨k, n1, c1, n2, c2, A1, A2, hk, rfl, rfl, rfl, hO1, hO2, hd, hB⟩ := hrel
      have hki : (k : Int) ≤ 8 := by omega
      have hk0 : (0 : Int) ≤ k := by omega
      have hlgq : lg.length = q * 52 := by rw [← H2.out.1.1]; exact H1.out.2.2
      have hl1 : (sel lg (lessIdx I k)).length ≤ 1000 := by
        have e : sel lg (lessIdx I k) = ((lessIdx I k).map (lnAt lg)).flatten := rfl
        rw [e, flat52_len _ (fun r hr => by obtain ⟨x, hx, rfl⟩ := List.mem_map.1 hr; exact lnAt_len lg q x hlgq (by have := lessIdx_lt I k x hx; omega)), List.length_map, lessIdx_len]
        split <;> omega
      have hl2 : (sel lg (swapIdx I J k)).length ≤ 1000 := by
        have e : sel lg (swapIdx I J k) = ((swapIdx I J k).map (lnAt lg)).flatten := rfl
        rw [e, flat52_len _ (fun r hr => by
          obtain ⟨x, hx, rfl⟩ := List.mem_map.1 hr
          obtain ⟨t, ht, rfl⟩ := List.mem_map.1 hx
          have := List.mem_range.1 ht
          have h1 := HIJ.out
          refine lnAt_len lg q _ hlgq ?_
          unfold swapAt
          split
          · omega
          · split <;> omega), List.length_map, swapIdx_len]
        omega
      have H3 := Lib.hid (And.intro hO1 (And.intro hO2 (And.intro hd (And.intro hB (And.intro hl1 (And.intro hl2 (And.intro hk hlgq)))))))
      clear hO1 hO2 hd hB hl1 hl2
      by_cases hlt : k < q
      · have hlti : (k : Int) < q := by omega
        obtain ⟨Ak, ck, hrunk, hrk⟩ := H2.out.1.cut_mid (k := 52 * k) (j := 52 * k + 52) (d := 52) (by have := H1.out.2.2; omega) rfl
        obtain ⟨Ai, ci, hruni, hri⟩ := H2.out.1.cut_mid (k := 52 * I) (j := 52 * I + 52) (d := 52) (by have := H1.out.2.2; have := HIJ.out; omega) rfl
        obtain ⟨Aj, cj, hrunj, hrj⟩ := H2.out.1.cut_mid (k := 52 * J) (j := 52 * J + 52) (d := 52) (by have := H1.out.2.2; have := HIJ.out; omega) rfl
        rw [show ((52 * k : Nat) : Int) = 52 * (k : Int) by omega, show ((52 * k + 52 : Nat) : Int) = 52 * (k : Int) + 52 by omega] at hrunk
        rw [show ((52 * I : Nat) : Int) = 52 * (I : Int) by omega, show ((52 * I + 52 : Nat) : Int) = 52 * (I : Int) + 52 by omega] at hruni
        rw [show ((52 * J : Nat) : Int) = 52 * (J : Int) by omega, show ((52 * J + 52 : Nat) : Int) = 52 * (J : Int) + 52 by omega] at hrunj
        have HR := Lib.hid (And.intro hrk (And.intro hri (And.intro hrj hlt)))
        have hIi : (I : Int) ≤ 8 := by omega
        have hJi : (J : Int) ≤ 8 := by omega
        clear hrk hri hrj hlt hk hlgq
        have hl52 : ∀ t, t < q → (lnAt lg t).length = 52 := fun t ht => lnAt_len lg q t H3.out.2.2.2.2.2.2.2 ht
        have HL := Lib.hid hl52
        clear hl52
        by_cases hkI : k = I
        · subst hkI
          have e1 : lessIdx k (k + 1) = lessIdx k k := by rw [lessIdx, if_pos rfl, List.append_nil]
          have e2 : sel lg (swapIdx k J (k + 1)) = sel lg (swapIdx k J k) ++ lnAt lg J := by rw [swapIdx_succ, sel_snoc]; congr 2; unfold swapAt; rw [if_pos rfl]
          have HX := Lib.hid (And.intro e1 e2)
          clear e1 e2
          go_wp2_with (at_builtin; go_must (refine wp_app2 (.tmp 85) (.tmp 86) w1.heap.size (.slice A2 n2 c2) (sel lg (swapIdx k J k)) H3.out.2.1 H3.out.2.2.2.1.size Aj 52 cj (lnAt lg J) (HR.out.2.2.1.below H3.out.2.2.2.1) (by have := H3.out.2.2.2.2.2.1; have := HL.out J HIJ.out.2.2; omega) rfl rfl rfl rfl ?_; intro A4 n4 c4 w4 hn4 hG4))
          have HG := Lib.hid hG4
          clear hG4
          go_roundw
          case rel =>
            have hG4 := HG.out
            refine ⟨k + 1, n1, c1, n4, c4, A1, A4, HR.out.2.2.2, by go_num, rfl, rfl, ?_, by rw [HX.out.2]; exact hG4.own, ?_, H3.out.2.2.2.1.trans hG4.below⟩
            · rw [HX.out.1]
              exact H3.out.1.turn (Turn.of_grown hG4.grown) (fun g hg hm => H3.out.2.2.1 g hg (by simpa using hm))
            · intro g hg he
              rcases hG4.at_ with h | h
              · rw [h] at he; exact H3.out.2.2.1 g hg he
              · rw [h] at he; cases he; have := (H3.out.1.lt hg).2; omega
          case measure => have := HR.out.2.2.2; simp [intOf]; omega
        · have hki1 : ((k : Int) == (I : Int)) = false := by rw [beq_eq_false_iff_ne]; omega
          have hki3 : ((k : Int) != (I : Int)) = true := by rw [bne_iff_ne]; omega
          have e1 : sel lg (lessIdx I (k + 1)) = sel lg (lessIdx I k) ++ lnAt lg k := by rw [lessIdx, if_neg hkI, sel_snoc]
          have HX1 := Lib.hid e1
          clear e1
          by_cases hkJ : k = J
          · subst hkJ
            have e2 : sel lg (swapIdx I k (k + 1)) = sel lg (swapIdx I k k) ++ lnAt lg I := by rw [swapIdx_succ, sel_snoc]; congr 2; unfold swapAt; rw [if_neg hkI, if_pos rfl]
            have HX := Lib.hid e2
            clear e2
            go_wp2_with (first
              | (at_builtin; have hO5 := H3.out.2.1.turn (Turn.of_grown hG4.grown) (fun g hg hm => H3.out.2.2.1 g (by simpa using hm) hg); go_must (refine wp_app2 (.tmp 85) (.tmp 86) w1.heap.size (.slice A2 n2 c2) (sel lg (swapIdx I k k)) hO5 (Nat.le_trans H3.out.2.2.2.1.size (Nat.le_trans hG4.grown.size (Nat.le_refl _))) Ai 52 ci (lnAt lg I) (HR.out.2.1.below (H3.out.2.2.2.1.trans hG4.below)) (by have := H3.out.2.2.2.2.2.1; have := HL.out I HIJ.out.2.1; omega) rfl rfl rfl rfl ?_; intro A5 n5 c5 w5 hn5 hG5))
              | (at_builtin; go_must (refine wp_app2 (.tmp 61) (.tmp 62) w1.heap.size (.slice A1 n1 c1) (sel lg (lessIdx I k)) H3.out.1 H3.out.2.2.2.1.size Ak 52 ck (lnAt lg k) (HR.out.1.below H3.out.2.2.2.1) (by have := H3.out.2.2.2.2.1; have := HL.out k HR.out.2.2.2; omega) rfl rfl rfl rfl ?_; intro A4 n4 c4 w4 hn4 hG4)))
            have HG := Lib.hid (And.intro hG4 hG5)
            clear hG4 hG5 hO5
            go_roundw
            case rel =>
              obtain ⟨hG4, hG5⟩ := HG.out
              have hd4 : ∀ g, (Value.slice A4 n4 c4).ownBlock = some g → (Value.slice A2 n2 c2).ownBlock ≠ some g := by
                intro g hg he
                rcases hG4.at_ with h | h
                · rw [h] at hg; exact H3.out.2.2.1 g hg he
                · rw [h] at hg; cases hg; have := (H3.out.2.1.lt he).2; omega
              refine ⟨k + 1, n4, c4, n5, c5, A4, A5, HR.out.2.2.2, by go_num, rfl, rfl, ?_, by rw [HX.out]; exact hG5.own, ?_, (H3.out.2.2.2.1.trans hG4.below).trans hG5.below⟩
              · rw [HX1.out]
                exact hG4.own.turn (Turn.of_grown hG5.grown) (fun g hg hm => hd4 g hg (by simpa using hm))
              · intro g hg he
                rcases hG5.at_ with h | h
                · rw [h] at he; exact hd4 g hg he
                · rw [h] at he; cases he; have := (hG4.own.lt hg).2; omega
            case measure => have := HR.out.2.2.2; simp [intOf]; omega
          · have hki2 : ((k : Int) == (J : Int)) = false := by rw [beq_eq_false_iff_ne]; omega
            have e2 : sel lg (swapIdx I J (k + 1)) = sel lg (swapIdx I J k) ++ lnAt lg k := by rw [swapIdx_succ, sel_snoc]; congr 2; unfold swapAt; rw [if_neg hkI, if_neg hkJ]
            have HX := Lib.hid e2
            clear e2
            go_wp2_with (first
              | (at_builtin; have hO5 := H3.out.2.1.turn (Turn.of_grown hG4.grown) (fun g hg hm => H3.out.2.2.1 g (by simpa using hm) hg); go_must (refine wp_app2 (.tmp 85) (.tmp 86) w1.heap.size (.slice A2 n2 c2) (sel lg (swapIdx I J k)) hO5 (Nat.le_trans H3.out.2.2.2.1.size (Nat.le_trans hG4.grown.size (Nat.le_refl _))) Ak 52 ck (lnAt lg k) (HR.out.1.below (H3.out.2.2.2.1.trans hG4.below)) (by have := H3.out.2.2.2.2.2.1; have := HL.out k HR.out.2.2.2; omega) rfl rfl rfl rfl ?_; intro A5 n5 c5 w5 hn5 hG5))
              | (at_builtin; go_must (refine wp_app2 (.tmp 61) (.tmp 62) w1.heap.size (.slice A1 n1 c1) (sel lg (lessIdx I k)) H3.out.1 H3.out.2.2.2.1.size Ak 52 ck (lnAt lg k) (HR.out.1.below H3.out.2.2.2.1) (by have := H3.out.2.2.2.2.1; have := HL.out k HR.out.2.2.2; omega) rfl rfl rfl rfl ?_; intro A4 n4 c4 w4 hn4 hG4)))
            have HG := Lib.hid (And.intro hG4 hG5)
            clear hG4 hG5 hO5
            go_roundw
            case rel =>
              obtain ⟨hG4, hG5⟩ := HG.out
              have hd4 : ∀ g, (Value.slice A4 n4 c4).ownBlock = some g → (Value.slice A2 n2 c2).ownBlock ≠ some g := by
                intro g hg he
                rcases hG4.at_ with h | h
                · rw [h] at hg; exact H3.out.2.2.1 g hg he
                · rw [h] at hg; cases hg; have := (H3.out.2.1.lt he).2; omega
              refine ⟨k + 1, n4, c4, n5, c5, A4, A5, HR.out.2.2.2, by go_num, rfl, rfl, ?_, by rw [HX.out]; exact hG5.own, ?_, (H3.out.2.2.2.1.trans hG4.below).trans hG5.below⟩
              · rw [HX1.out]
                exact hG4.own.turn (Turn.of_grown hG5.grown) (fun g hg hm => hd4 g hg (by simpa using hm))
              · intro g hg he
                rcases hG5.at_ with h | h
                · rw [h] at he; exact hd4 g hg he
                · rw [h] at he; cases he; have := (hG4.own.lt hg).2; omega
            case measure => have := HR.out.2.2.2; simp [intOf]; omega
      · obtain rfl : k = q := by omega
        have hlti : ¬ ((k : Int) < k) := by omega
        have hok := HE.out.1
        have hle : es'.length ≤ 1000 := by have := HE.out.2.1; omega
        have hes := HE.out.2.2.2.1
        have hlx : ∀ x ∈ lessIdx I k, x < es'.length := fun x hx => by have := lessIdx_lt I k x hx; omega
        have hsx : ∀ x ∈ swapIdx I J k, x < es'.length := fun x hx => by have := swapIdx_lt I J k HIJ.out.2.1 HIJ.out.2.2 x hx; omega
        have hll : (lessIdx I k).length = k - 1 := by rw [lessIdx_len, if_pos HIJ.out.2.1]
        have hsl : (swapIdx I J k).length = k := swapIdx_len I J k
        have g1 := sel_good es' hok hle (lessIdx I k) hlx
        have g2 := sel_good es' hok hle (swapIdx I J k) hsx
        have r1 := sel_rightTo es' hok hle (lessIdx I k) hlx (by omega) I (by have := HIJ.out; omega) (fun t ht => by rw [lessIdx_at I k t (by have := HIJ.out; omega), if_pos ht]) (fun h => ⟨I + 1, by rw [lessIdx_at I k I h, if_neg (Nat.lt_irrefl _)], by omega⟩)
        have r2 := sel_rightTo es' hok hle (swapIdx I J k) hsx (by omega) (min I J) (by have := HIJ.out; omega) (fun t ht => by
          rw [swapIdx_at I J k t (by have := HIJ.out; omega)]
          unfold swapAt
          rw [if_neg (by omega), if_neg (by omega)]) (fun h => by
          obtain ⟨x, hx, hne⟩ := swap_ne I J HIJ.out.1
          exact ⟨x, by rw [swapIdx_at I J k _ (by omega), hx], hne⟩)
        rw [H2.out.2, hll] at g1 r1
        rw [H2.out.2, hsl] at g2 r2
        have hmk : ¬ (min I J = k) := by have := HIJ.out; omega
        have HG := Lib.hid (And.intro g1 (And.intro g2 (And.intro r1 (And.intro r2 hmk))))
        clear hok hle hes hlx hsx hll hsl g1 g2 r1 r2 hmk hlt hk hlgq
        have hcase : I = k - 1 ∨ I ≠ k - 1 := by omega
        have hk1 : 1 ≤ k := by have := HIJ.out; omega
        have hcm : (I : Int) = (k : Int) - 1 ∨ ¬ ((I : Int) = (k : Int) - 1) := by omega
        rcases hcase with hc | hc
        · have hci : (I : Int) = (k : Int) - 1 := by omega
          have hcb : ((I : Int) == (k : Int) - 1) = true := by simpa using hci
          have HC2 := Lib.hid hc
          clear hci hcm hc
          go_wp2_with fail
          refine (check_at A1 n1 c1 (k - 1) I _ wr H3.out.1.rd HG.out.1 (by omega) HG.out.2.2.1 (HH.out.2.below (Old.trans H1.out.2.1 H3.out.2.2.2.1))).mono ?_
          rintro en w5 ⟨rfl, hb5⟩
          have X5 := Lib.hid hb5
          clear hb5
          first | rw [decide_eq_true HC2.out] | rw [decide_eq_false HC2.out]
          go_wp2_with fail
          refine (check_at A2 n2 c2 k (min I J) _ w5 (H3.out.2.1.rd.below X5.out) HG.out.2.1 (by omega) HG.out.2.2.2.1 (HH.out.2.below (Old.trans (Old.trans H1.out.2.1 H3.out.2.2.2.1) X5.out))).mono ?_
          rintro en w6 ⟨rfl, hb6⟩
          have X6 := Lib.hid (Old.trans X5.out hb6)
          clear hb6
          rw [decide_eq_false HG.out.2.2.2.2]
          go_wp2_with fail
          go_ret
          exact ⟨rfl, Old.trans (Old.trans H1.out.2.1 H3.out.2.2.2.1) X6.out⟩
        · have hcb : ((I : Int) == (k : Int) - 1) = false := by rw [beq_eq_false_iff_ne]; omega
          have HC2 := Lib.hid hc
          clear hcm hc
          go_wp2_with fail
          refine (check_at A1 n1 c1 (k - 1) I _ wr H3.out.1.rd HG.out.1 (by omega) HG.out.2.2.1 (HH.out.2.below (Old.trans H1.out.2.1 H3.out.2.2.2.1))).mono ?_
          rintro en w5 ⟨rfl, hb5⟩
          have X5 := Lib.hid hb5
          clear hb5
          first | rw [decide_eq_true HC2.out] | rw [decide_eq_false HC2.out]
          go_wp2_with fail
          refine (check_at A2 n2 c2 k (min I J) _ w5 (H3.out.2.1.rd.below X5.out) HG.out.2.1 (by omega) HG.out.2.2.2.1 (HH.out.2.below (Old.trans (Old.trans H1.out.2.1 H3.out.2.2.2.1) X5.out))).mono ?_
          rintro en w6 ⟨rfl, hb6⟩
          have X6 := Lib.hid (Old.trans X5.out hb6)
          clear hb6
          rw [decide_eq_false HG.out.2.2.2.2]
          go_wp2_with fail
          go_ret
          exact ⟨rfl, Old.trans (Old.trans H1.out.2.1 H3.out.2.2.2.1) X6.out⟩
end Go.Proofs.YtpccmcpeijmekaaDoor
