/-
  The law AuditLong, walked where its numbers are in range.
-/
import Derived.Test.YtpccmcpeijmekaaDoorAud15a
namespace Go.Proofs.YtpccmcpeijmekaaDoor
open Go.RowKit
attribute [local go_sem] Oper.semAt_some

set_option maxRecDepth 100000 in
set_option maxHeartbeats 4000000 in
theorem auditLong_yes (N C T F R L : Nat) (s : Int) (w : World) (hK : KAt w) (hN : N ≤ 150) (hC : C ≤ N) (hF : F ≤ 65000) (hL : L ≤ 65535) (hR : R ≤ 2147483648) (hT : T < 9223372036854775808) :
    Calls Tryd.prog 5 #[.int .i64 (N : Int), .int .i64 (C : Int), .agg #[.int .i64 s, .int .i64 (T : Int), .int .i64 (F : Int), .int .i64 (R : Int), .int .i64 (L : Int)]] w (LawRes w) := by
  have H0 := Lib.hid (And.intro (LgB.first w s T F R L) hK)
  have hok : ∀ k, k ≤ N → ∀ e ∈ longE T F R L k, e.ok := fun k hk => longE_ok T F R L k hT (by omega) (by omega) (by omega)
  have HB := Lib.hid (And.intro hN (And.intro hC (And.intro hF (And.intro hL (And.intro hR (And.intro hT hok))))))
  have y1 : decide ((N : Int) < 0) = false := decide_eq_false (by omega)
  have y2 : decide ((150 : Int) < N) = false := decide_eq_false (by omega)
  have y3 : decide ((C : Int) < 0) = false := decide_eq_false (by omega)
  have y4 : ¬ (N < C) := by omega
  have y5 : decide ((F : Int) < 0) = false := decide_eq_false (by omega)
  have y6 : decide ((65000 : Int) < F) = false := decide_eq_false (by omega)
  have y7 : decide ((L : Int) < 0) = false := decide_eq_false (by omega)
  have y8 : decide ((65535 : Int) < L) = false := decide_eq_false (by omega)
  have y9 : decide ((R : Int) < 0) = false := decide_eq_false (by omega)
  have y10 : decide ((2147483648 : Int) < R) = false := decide_eq_false (by omega)
  have y11 : decide ((T : Int) < 0) = false := decide_eq_false (by omega)
  have z1 : (N : Int) ≤ 150 := by omega
  have z2 : (C : Int) ≤ 150 := by omega
  have z3 : (F : Int) ≤ 65000 := by omega
  clear hK hN hC hF hL hR hT hok
  refine calls_of_marks Tryd.func5 rfl ?_
  simp only [Tryd.ntmps5, List.size_toArray, List.length_cons, List.length_nil, Nat.reduceAdd, Nat.reduceSub, Array.replicate_succ, Array.replicate_zero, List.push_toArray, List.append_toArray, List.nil_append, List.cons_append]
  go_wp2_with fail
  refine (begun_any _ (H0.out.2.below H0.out.1.old)).mono ?_
  rintro en w1 ⟨rfl, hb1⟩
  have H1 := Lib.hid (H0.out.1.below hb1)
  clear hb1
  obtain ⟨c0, c1, c2, c3, c4, c5, f5⟩ := H1.out.cells
  go_wp2_with fail
  clear c0 c1 c2 c3 c4 c5 f5 y1 y2 y3 y4 y5 y6 y7 y8 y9 y10 y11
  go_loopw [8, 9] (fun v i wr => ∃ (k n1 c1 : Nat) (A1 : Option Addr), k ≤ N ∧ i = .int .i64 (k : Nat) ∧ v = .slice A1 n1 c1 ∧ Own wr w1.heap.size (.slice A1 n1 c1) (chainOf (rof 3) (longE T F R L k)) ∧ Below w1.heap.size w1 wr) (fun _ i _ => N - (intOf i).toNat)
  case atStart => exact ⟨0, 0, 0, none, by omega, rfl, rfl, Own.nil _ _, Below.refl _ _⟩
  case round =>
    obtain ⟨k, n1, c1, A1, hk, rfl, rfl, hO, hB⟩ := hrel
    have hn1 := hO.len
    rw [chainOf_len (H := rof 3) rof3_len, longE_len] at hn1
    have H3 := Lib.hid (And.intro hO (And.intro hB (And.intro hn1 (And.intro hk (H1.out.below hB)))))
    have hki : (k : Int) ≤ 150 := by omega
    have hk0 : (0 : Int) ≤ k := by omega
    clear hO hB hn1
    by_cases hlt : k < N
    · have hlti : (k : Int) < N := by omega
      obtain ⟨c0, c1', c2, c3, c4, c5, f5⟩ := H3.out.2.2.2.2.cells
      have hA : ∀ W, Old wr W → Calls Tryd.prog 7 #[.slice A1 n1 c1, .agg #[.int .i64 s, .int .i64 (T : Int), .int .i64 ((F : Int) + (k : Int)), .int .i64 (R : Int), .int .i64 (L : Int)]] W (AppYes W (chainOf (rof 3) (longE T F R L (k + 1)))) := fun W ho => by
        rw [longE_chain]
        exact append_yes A1 n1 c1 k _ s ⟨0, T, F + k, R, L⟩ W (H3.out.1.rd.below ho) (by have := H3.out.2.2.1; omega) (by have := H3.out.2.2.1; have := HB.out.1; omega) ⟨HB.out.2.2.2.2.2.1, by have := HB.out; simp only; omega, by have := HB.out; simp only; omega, by have := HB.out; simp only; omega⟩ (H0.out.2.below (Old.trans H3.out.2.2.2.2.old ho))
      have hbl := H3.out.2.2.2.2.box.lt
      have hbl2 := H3.out.2.2.2.2.ans.lt
      have HA := Lib.hid (And.intro hA hlt)
      clear hA hlt hk
      go_wp2_with fail
      refine (HA.out.1 _ (Old.alloc (Old.refl _) _)).mono ?_
      rintro en w4 ⟨A4, n4, c4', rfl, hO4, hb4⟩
      have hbel : Old wr w4 := Old.trans (Old.alloc (Old.refl wr) _) hb4
      have X4 := Lib.hid (And.intro hO4 hbel)
      clear hO4 hb4 hbel c0 c1' c2 c3 c4 c5 f5 hbl hbl2
      go_wp2_with fail
      go_roundw
      case rel => exact ⟨k + 1, n4, c4', A4, HA.out.2, by go_num, rfl, X4.out.1.mono (Nat.le_trans H3.out.2.1.size (by simp)), H3.out.2.1.trans (Below.mono X4.out.2 H3.out.2.1.size)⟩
      case measure => have := HA.out.2; simp [intOf]; omega
    · obtain rfl : k = N := by omega
      have hlti : ¬ ((k : Int) < k) := by omega
      clear hlt hk
      obtain ⟨lg, hlg⟩ : ∃ lg, chainOf (rof 3) (longE T F R L k) = lg := ⟨_, rfl⟩
      have hg := chain_good (longE T F R L k) (HB.out.2.2.2.2.2.2 k (Nat.le_refl _)) (by rw [longE_len]; have := HB.out.1; omega)
      have hrt := chain_rightTo (longE T F R L k) (HB.out.2.2.2.2.2.2 k (Nat.le_refl _)) (by rw [longE_len]; have := HB.out.1; omega)
      have hg2 := chain_good (longE T F R L C) (HB.out.2.2.2.2.2.2 C HB.out.2.1) (by rw [longE_len]; have := HB.out; omega)
      have hrt2 := chain_rightTo (longE T F R L C) (HB.out.2.2.2.2.2.2 C HB.out.2.1) (by rw [longE_len]; have := HB.out; omega)
      have htk := chainOf_take (H := rof 3) rof3_len (longE T F R L k) C (by rw [longE_len]; exact HB.out.2.1)
      rw [longE_take T F R L k C HB.out.2.1] at htk
      rw [← htk] at hg2 hrt2
      have hat : ∀ i, i < k → rdE (lnAt (chainOf (rof 3) (longE T F R L k)) i) = ⟨i, T, F + i, R, L⟩ := fun i hi => (chain_at (longE T F R L k) (HB.out.2.2.2.2.2.2 k (Nat.le_refl _)) (by rw [longE_len]; have := HB.out.1; omega) i _ (longE_at T F R L k i hi)).2.1
      rw [longE_len] at hg hrt hg2 hrt2
      rw [hlg] at hg hrt hg2 hrt2 hat
      have hO := H3.out.1
      rw [hlg] at hO
      have hfr := hO.rd.front (k := 52 * C) (by have := H3.out.2.2.1; have := HB.out.2.1; omega)
      have hsl := slice_to A1 n1 c1 (52 * C) hO.rd.spot (by have := H3.out.2.2.1; have := HB.out.2.1; have := hO.rd.2.1; omega)
      rw [show ((52 * C : Nat) : Int) = 52 * (C : Int) by omega] at hsl
      have HG := Lib.hid (And.intro hg (And.intro hrt (And.intro hg2 (And.intro hrt2 (And.intro hat (And.intro hO hfr))))))
      clear hg hrt hg2 hrt2 hat hO hfr hlg htk
      have hne := neSeq
      obtain ⟨c0, c1', c2, c3, c4, c5, f5⟩ := H3.out.2.2.2.2.cells
      clear c0 c1' c2 c3 c4 c5 f5
      go_wp2_with fail
      refine (check_at A1 n1 c1 k k lg wr HG.out.2.2.2.2.2.1.rd HG.out.1 (by have := HB.out.1; omega) HG.out.2.1 (H0.out.2.below H3.out.2.2.2.2.old)).mono ?_
      rintro en w5 ⟨rfl, hb5⟩
      rw [decide_eq_true (rfl : k = k)]
      have X5 := Lib.hid hb5
      clear hb5
      go_wp2_with fail
      refine (check_at A1 (52 * C) c1 C C _ w5 (HG.out.2.2.2.2.2.2.below X5.out) HG.out.2.2.1 (by have := HB.out; omega) HG.out.2.2.2.1 (H0.out.2.below (Old.trans H3.out.2.2.2.2.old X5.out))).mono ?_
      rintro en w6 ⟨rfl, hb6⟩
      rw [decide_eq_true (rfl : C = C)]
      have X6 := Lib.hid (Old.trans X5.out hb6)
      clear hb6
      go_wp2_with fail
      refine (all_any A1 n1 c1 w6).mono ?_
      rintro en w7 ⟨rfl, rfl⟩
      go_wp2_with fail
      obtain ⟨X, hX⟩ : ∃ X, w6.heap.size = X := ⟨_, rfl⟩
      obtain ⟨W0, hW0⟩ : ∃ W0, (w6.alloc (.cells #[.slice A1 n1 c1] 24)).alloc (.cells #[.int .i64 0] 3) = W0 := ⟨_, rfl⟩
      have hbx : Blk W0 X 24 #[.slice A1 n1 c1] := by rw [← hW0, ← hX]; exact (Blk.new w6 24 #[.slice A1 n1 c1]).alloc _
      have hbk : Blk W0 (X + 1) 3 #[.int .i64 0] := by
        have := Blk.new (w6.alloc (.cells #[.slice A1 n1 c1] 24)) 3 #[.int .i64 0]
        rw [hW0] at this; simpa [hX] using this
      have hz0 : W0.heap.size = X + 2 := by rw [← hW0, ← hX]; simp
      have h60 : Old wr W0 := by rw [← hW0]; exact Old.trans X6.out (Old.alloc (Old.alloc (Old.refl _) _) _)
      have hLg := H3.out.2.2.2.2.below h60
      have hXb : w.heap.size + 1 < X := by rw [← hX]; exact Nat.lt_of_lt_of_le H3.out.2.2.2.2.ans.lt X6.out.size
      have hA1 : ∀ ad, A1 = some ad → ad.block < X := fun ad had => by rw [← hX]; exact Nat.lt_of_lt_of_le (HG.out.2.2.2.2.2.1.rd.lt ad had) X6.out.size
      rw [hW0, hX]
      have HZ := Lib.hid (And.intro hbx (And.intro hbk (And.intro hz0 (And.intro h60 (And.intro hXb (And.intro hA1 hLg))))))
      clear hbx hbk hz0 h60 hXb hA1 hX hW0 hLg
      have HKl := Lib.hid H0.out.2.1
      have hMine : ∀ (W W' : World) (S : List Nat) (j : Nat), lnMine X A1 n1 c1 lg j W → Turn S W W' → (∀ t ∈ S, X < t) → lnMine X A1 n1 c1 lg j W' := by
        rintro W W' S j ⟨h1, h2, h3⟩ ht hS
        have hx := HZ.out.2.2.2.2.1
        have hk := HKl.out
        exact ⟨h1.turn ht (fun hm => by have := hS _ hm; omega), h2.turn ht (fun ad had hm => by have := hS _ hm; have := HZ.out.2.2.2.2.2.1 ad had; omega), h3.turn ht (fun hm => by have := hS _ hm; omega)⟩
      refine wp_rangeC (fun tm args g => (tm.setIfInBounds 19 (args.getD 0 undef)).setIfInBounds 20 (.pointer (some ⟨g, 0, none⟩))) (fun j args g W => args = #[.int .i64 (j : Int), rdV (lnAt lg j)] ∧ Blk W g 29 (entC (j : Nat) (T : Nat) ((F + j : Nat) : Int) (R : Nat) (L : Nat)) ∧ X + 1 < g)
        (gf := 20) (lb := #[.pointer (some ⟨X, 0, none⟩)]) (T := []) rfl (fun _ _ => by kernel_rfl)
        (all_iter X A1 n1 c1 k k lg HG.out.1 (by have := HB.out.1; omega) HG.out.2.1) (fun k args W h => by cases h; rfl) (by simp)
        (fun j W => j ≤ k ∧ Blk W (X + 1) 3 #[.int .i64 (j : Int)] ∧ LgB w s T F R L W ∧ lnMine X A1 n1 c1 lg 0 W) (fun _ _ _ => False)
        ?hI ?hIx ?hM ?hA ⟨by omega, HZ.out.2.1, HZ.out.2.2.2.2.2.2, HZ.out.1, HG.out.2.2.2.2.2.1.rd.below HZ.out.2.2.2.1, H0.out.2.below HZ.out.2.2.2.2.2.2.old⟩ ?hM0 ?hM1 ?hassign ?hbody ?hdone ?hstop
      case hI =>
        rintro j W1 W2 S ⟨h0, h1, h2, h3⟩ ht hS
        have hz := HZ.out.2.2.1
        have hx := HZ.out.2.2.2.2.1
        have hS' : ∀ t ∈ S, X + 1 < t := by
          intro t hm
          rcases hS t hm with h | ⟨h, _⟩
          · cases h
          · omega
        exact ⟨h0, h1.turn ht (fun hm => by have := hS' _ hm; omega), h2.turn ht (fun t hm => by have := hS' _ hm; omega), hMine _ _ _ 0 h3 ht (fun t hm => by have := hS' _ hm; omega)⟩
      case hIx => intro _ _ _ _ _ h; exact h.elim
      case hM =>
        rintro j W1 W2 h ⟨r, hr⟩ ht
        exact hMine W1 W2 _ j h ht (fun t hm => by have := HZ.out.2.2.1; simp at hm; omega)
      case hA =>
        rintro j args g W1 W2 ⟨h1, h2, h3⟩ ⟨r, hr⟩ ht
        refine ⟨h1, h2.turn ht (fun hm => ?_), h3⟩
        simp at hm
        subst hm
        unfold Blk at h2
        rw [hr] at h2
        cases h2
      case hM0 => exact ⟨HZ.out.1, HG.out.2.2.2.2.2.1.rd.below HZ.out.2.2.2.1, H0.out.2.below HZ.out.2.2.2.2.2.2.old⟩
      case hM1 =>
        intro W ht hm
        exact hMine W0 W [] 0 hm ht (by simp)
      case hassign =>
        rintro l' args j W K hj hlt hI hM rfl hK
        have hrd : rdV (lnAt lg j) = .agg #[.int .i64 (j : Nat), .int .i64 (T : Nat), .int .i64 ((F + j : Nat) : Int), .int .i64 (R : Nat), .int .i64 (L : Nat)] := by unfold rdV; rw [HG.out.2.2.2.2.1 j hj]; rfl
        have hnew : Old W (W.alloc (.cells (entC (j : Nat) (T : Nat) ((F + j : Nat) : Int) (R : Nat) (L : Nat)) 29)) := (Below.refl _ _).alloc (Nat.le_refl _) _
        have hK2 := hK W.heap.size (W.alloc (.cells (entC (j : Nat) (T : Nat) ((F + j : Nat) : Int) (R : Nat) (L : Nat)) 29)) ⟨[], Turn.of_below [] hnew, by simp, by simp⟩ ⟨hI.1, hI.2.1.alloc _, hI.2.2.1.below hnew, hMine W _ [] 0 hI.2.2.2 (Turn.of_below [] hnew) (by simp)⟩
          (hMine W _ [] j hM (Turn.of_below [] hnew) (by simp)) ⟨rfl, Blk.new _ _ _, by have := HZ.out.2.2.1; omega⟩
        rw [hrd] at hK2 ⊢
        have HX := Lib.hid hK2
        clear hI hM hlt hrd hK hK2 hnew hj
        gi_wp2
        have := HX.out
        simp at this
        exact this
      case hbody =>
        rintro l' j args g W hj hlt hI hM ⟨rfl, hb, hgX⟩
        have hji : (j : Int) ≤ 150 := by have := HB.out.1; omega
        have hj0 : (0 : Int) ≤ j := by omega
        have q1 := hI.2.1.cell 0
        have f1 := hI.2.1.frozen 0
        have g0 := hb.cell 0
        have g1 := hb.cell 1
        have g2 := hb.cell 2
        have g3 := hb.cell 3
        have g4 := hb.cell 4
        obtain ⟨d0, d1, d2, d3, d4, d5, d6⟩ := hI.2.2.1.cells
        unfold entC at g0 g1 g2 g3 g4
        rw [show ((F + j : Nat) : Int) = (F : Int) + (j : Int) by omega] at g2
        simp only [List.getElem?_toArray, List.getElem?_cons_zero, List.getElem?_cons_succ] at q1 g0 g1 g2 g3 g4
        have HX := Lib.hid (And.intro hI (And.intro hM (And.intro hlt hj)))
        clear hI hM hb hlt hj d0 d5 d6
        generalize rdV (lnAt lg j) = zz at *
        gi_wp2
        have hT := (Turn.refl [X + 1] W).setCell (p := ⟨X + 1, 0, none⟩) (.inl (by simp)) (.int .i64 ((j : Int) + 1))
        have hz := HZ.out.2.2.1
        have hx := HZ.out.2.2.2.2.1
        exact ⟨⟨[X + 1], hT, by simp; omega, by simp; omega⟩, ⟨HX.out.2.2.2, HX.out.1.2.1.set_ 0 _, HX.out.1.2.2.1.turn hT (by simp; omega), hMine _ _ _ 0 HX.out.1.2.2.2 hT (by simp)⟩, hMine _ _ _ j HX.out.2.1 hT (by simp)⟩
      case hdone =>
        rintro W hlt ⟨h0, h1, h2, h3⟩ hKd
        have q1 := h1.cell 0
        simp only [List.getElem?_toArray, List.getElem?_cons_zero] at q1
        obtain ⟨d0, d1, d2, d3, d4, d5, d6⟩ := h2.cells
        have HX := Lib.hid (And.intro h2 (And.intro hKd hlt))
        clear h0 h1 h2 hKd hlt h3 d0 d1 d2 d3 d4
        go_wp2_with fail
        have hz := HZ.out.2.2.1
        have hx := HZ.out.2.2.2.2.1
        obtain ⟨hb, ho⟩ := HX.out.1.say
        have hT1 := (Turn.refl [w.heap.size + 1] W).setCell (p := ⟨w.heap.size + 1, 0, none⟩) (.inl (by simp)) (.bool true)
        have hT := (Turn.refl [W0.heap.size] (W.setCell ⟨w.heap.size + 1, 0, none⟩ (.bool true))).putObj (l := W0.heap.size) (.inl (by simp)) (.deferred none)
        refine ret_cell rfl ((hT1.block _ (by have := HX.out.2.2; omega) (by simp; omega)).trans HX.out.2.1) (v := .bool true) (res_cell rfl rfl (hb.turn hT (by simp; omega))) ⟨rfl, ho.turned hT (by simp; omega)⟩
      case hstop => intro _ _ _ _ _ h; exact h.elim
theorem auditLong_walk (n cut : Int) (e : RawE) (w : World) (hK : KAt w) :
    Calls Tryd.prog 5 #[.int .i64 n, .int .i64 cut, .agg #[.int .i64 e.s, .int .i64 e.t, .int .i64 e.f, .int .i64 e.r, .int .i64 e.l]] w (LawRes w) := by
  by_cases h : 0 ≤ n ∧ n ≤ 150 ∧ 0 ≤ cut ∧ cut ≤ n ∧ 0 ≤ e.f ∧ e.f ≤ 65000 ∧ 0 ≤ e.l ∧ e.l ≤ 65535 ∧ 0 ≤ e.r ∧ e.r ≤ 2147483648 ∧ 0 ≤ e.t
  · obtain ⟨h1, h2, h3, h4, h5, h6, h7, h8, h9, h10, h11⟩ := h
    have hw := e.wf
    obtain ⟨N, rfl⟩ := Int.eq_ofNat_of_zero_le h1
    obtain ⟨C, rfl⟩ := Int.eq_ofNat_of_zero_le h3
    obtain ⟨F, hF⟩ := Int.eq_ofNat_of_zero_le h5
    obtain ⟨L, hL⟩ := Int.eq_ofNat_of_zero_le h7
    obtain ⟨R, hR⟩ := Int.eq_ofNat_of_zero_le h9
    obtain ⟨T, hT⟩ := Int.eq_ofNat_of_zero_le h11
    rw [hF, hL, hR, hT]
    exact auditLong_yes N C T F R L e.s w hK (by omega) (by omega) (by omega) (by omega) (by omega) (by omega)
  · exact auditLong_no n cut e.s e.t e.f e.r e.l w hK h
end Go.Proofs.YtpccmcpeijmekaaDoor
