/-
  Modes: the key wrap undone: Unwrap.
-/
import Derived.Test.YtiocmebcbhbcmaaMo21
namespace Go.Proofs.Ytiocmebcbhbcmaa
set_option maxRecDepth 100000
open Go.RowKit

/-- One step back, the (s+1)th. -/
def uwX (D : List UInt8 → List UInt8) (n s : Nat) (r : List UInt8) : List UInt8 := D (xorL (r.take 8) (bytes64 (UInt64.ofNat (s + 1))) ++ (r.drop (wrI n s)).take 8)
def uwF (D : List UInt8 → List UInt8) (n s : Nat) (r : List UInt8) : List UInt8 := splice (splice r 0 ((uwX D n s r).take 8)) (wrI n s) ((uwX D n s r).drop 8)
def uwN (D : List UInt8 → List UInt8) (n : Nat) : Nat → List UInt8 → List UInt8
  | 0, r => r
  | s + 1, r => uwN D n s (uwF D n s r)
def unwrapR (D : List UInt8 → List UInt8) (b : List UInt8) : List UInt8 := uwN D (b.length / 8 - 1) (6 * (b.length / 8 - 1)) b
def unwrapF (D : List UInt8 → List UInt8) (b : List UInt8) : List UInt8 × Int := if (unwrapR D b).take 8 = sgn then ((unwrapR D b).drop 8, 0) else ([], 272)
def unwrapLen (m : Nat) : Prop := 24 ≤ m ∧ m ≤ 65536 ∧ m % 8 = 0
instance (m : Nat) : Decidable (unwrapLen m) := by unfold unwrapLen; infer_instance
theorem unwrap_nokey (A C : Option Addr) (m c n cb : Nat) (w : World) (h : m ≠ 16 ∧ m ≠ 24 ∧ m ≠ 32) :
    Calls Try.prog 28 #[.slice A m c, .slice C n cb] w (RvRes w ([], 98)) := by
  have hc := new_no A m c w h
  clear h
  go_enter Try.func28, Try.ntmps28
  go_wp2_with fail
  refine hc.mono ?_
  rintro e w1 ⟨rfl, hw⟩
  subst hw
  go_wp2_with fail
  refine bodyPost_ret (results_tmp2 rfl _ _ _) rfl ?_
  exact RvRes.nil _ _ _ (Old.refl _)
theorem unwrap_nolen (A C : Option Addr) (mk ck n cb : Nat) (k : List UInt8) (w : World) (hk : Rd w A mk ck k) (hko : keyOk k) (hl : ¬ unwrapLen n) :
    Calls Try.prog 28 #[.slice A mk ck, .slice C n cb] w (RvRes w ([], 274)) := by
  have hcall := new_any A mk ck k w hk hko
  have HH := Lib.hid hcall
  clear hcall hk hko
  by_cases h1 : n < 24
  · have i1 : (n : Int) < 24 := by omega
    have d1 : decide ((n : Int) < 24) = true := decide_eq_true i1
    clear hl
    go_enter Try.func28, Try.ntmps28
    go_wp2_with fail
    refine HH.out.mono ?_
    rintro e w1 ⟨c, kb, R, cq, rfl, _, hB⟩
    have H1 := Lib.hid hB
    clear hB
    go_wp2_with fail
    refine bodyPost_ret (results_tmp2 rfl _ _ _) rfl ?_
    exact RvRes.nil _ _ _ H1.out
  · have i1 : ¬ (n : Int) < 24 := by omega
    have d1 : decide ((n : Int) < 24) = false := decide_eq_false i1
    by_cases h2 : 65536 < n
    · have i2 : (n : Int) > 65536 := by omega
      have d2 : decide ((n : Int) > 65536) = true := decide_eq_true i2
      clear hl
      go_enter Try.func28, Try.ntmps28
      go_wp2_with fail
      refine HH.out.mono ?_
      rintro e w1 ⟨c, kb, R, cq, rfl, _, hB⟩
      have H1 := Lib.hid hB
      clear hB
      go_wp2_with fail
      refine bodyPost_ret (results_tmp2 rfl _ _ _) rfl ?_
      exact RvRes.nil _ _ _ H1.out
    · have i2 : ¬ (n : Int) > 65536 := by omega
      have d2 : decide ((n : Int) > 65536) = false := decide_eq_false i2
      have i3 : (n : Int) % 8 > 0 := by unfold unwrapLen at hl; omega
      have d3 : decide ((n : Int) % 8 > 0) = true := decide_eq_true i3
      clear hl
      go_enter Try.func28, Try.ntmps28
      go_wp2_with fail
      refine HH.out.mono ?_
      rintro e w1 ⟨c, kb, R, cq, rfl, _, hB⟩
      have H1 := Lib.hid hB
      clear hB
      go_wp2_with fail
      refine bodyPost_ret (results_tmp2 rfl _ _ _) rfl ?_
      exact RvRes.nil _ _ _ H1.out
set_option maxHeartbeats 4000000 in
theorem unwrap_any (A C : Option Addr) (mk ck n cb : Nat) (k b : List UInt8) (w : World) (hk : Rd w A mk ck k) (hb : Rd w C n cb b) (hko : keyOk k) (hl : unwrapLen n) :
    Calls Try.prog 28 #[.slice A mk ck, .slice C n cb] w (RvRes w (unwrapF (decL (rks k) ((rks k).length / 16)) b)) := by
  have hcall := new_any A mk ck k w hk hko
  obtain ⟨TG, hTG⟩ : ∃ T, unwrapF (decL (rks k) ((rks k).length / 16)) b = T := ⟨_, rfl⟩
  rw [hTG]
  obtain ⟨l1, l2, l3⟩ := hl
  have i1 : ¬ (n : Int) < 24 := by omega
  have d1 : decide ((n : Int) < 24) = false := decide_eq_false i1
  have i2 : ¬ (n : Int) > 65536 := by omega
  have d2 : decide ((n : Int) > 65536) = false := decide_eq_false i2
  have i3 : ¬ (n : Int) % 8 > 0 := by omega
  have d3 : decide ((n : Int) % 8 > 0) = false := decide_eq_false i3
  obtain ⟨N, hN⟩ : ∃ N, n / 8 - 1 = N := ⟨_, rfl⟩
  have hN1 : 2 ≤ N := by omega
  have hN2 : N ≤ 8191 := by omega
  obtain ⟨N1, hNN⟩ : ∃ N1, n / 8 = N1 := ⟨_, rfl⟩
  have hquo : Int.tdiv (n : Int) 8 = (N1 : Int) := by rw [Int.tdiv_eq_ediv_of_nonneg (by omega)]; omega
  have hquo2 : (n : Int) / 8 = (N1 : Int) := by omega
  have hq3 : IntKind.i64.wrap ((N1 : Int) - 1) = (N : Int) := by rw [IntWalk.i64_in _ (by omega)]; omega
  have HH := Lib.hid (And.intro hcall (And.intro hb (And.intro hb.1 (And.intro hTG (And.intro hN (And.intro l1 (And.intro l2 l3)))))))
  have hn8 : n = 8 * N + 8 := by omega
  have HN8 := Lib.hid hn8
  clear hcall hk hb hTG hN l1 l2 l3 hNN hn8
  go_enter Try.func28, Try.ntmps28
  go_wp2_with fail
  refine HH.out.1.mono ?_
  rintro e w1 ⟨c, kb, R, cq, rfl, hC, hB⟩
  have hR : (rks k).length / 16 = R := by have : (rks k).length = 16 * R := hC.2.2.2.2.2.1; omega
  have hTG := HH.out.2.2.2.1
  rw [hR] at hTG
  have hC0 : Cip w1 0 c (rks k) kb R cq := ⟨hC.1, Nat.zero_le _, Nat.zero_le _, hC.2.2.2⟩
  obtain ⟨D, hD⟩ : ∃ D, decL (rks k) R = D := ⟨_, rfl⟩
  have hdec : ∀ (W : World) (A' : Option Addr) (ca : Nat) (l : List UInt8), Old w1 W → Rd W A' 16 ca l → Calls Try.prog 57 #[.pointer (some ⟨c, 0, none⟩), .slice A' 16 ca] W fun e w' => ∃ sb : Nat, e = .returned (.slice (some ⟨sb, 0, none⟩) 16 16) ∧ Rd w' (some ⟨sb, 0, none⟩) 16 16 (D l) ∧ Old W w' ∧ W.heap.size ≤ sb := fun W A' ca l hO hr => by
    refine (dec_any 0 c (rks k) kb R cq A' ca l W (hC0.below hO) hr).mono ?_
    rintro e w' ⟨sb, rfl, hsb, hS, hb⟩
    exact ⟨sb, rfl, by rw [← hD]; exact hS.rd, hb, hsb⟩
  rw [hD] at hTG
  have H1 := Lib.hid (And.intro hdec (And.intro hB hTG))
  clear hC hC0 hdec hD hR hB hko hTG
  go_upto_region 7 with (go_at_call 40; refine (clone_own C n cb b w1 (HH.out.2.1.below H1.out.2.1) (by omega)).mono ?_; rintro e w2 ⟨A2, n2, c2, rfl, hO2, hB2⟩; have H2 := Lib.hid (And.intro hO2 hB2); clear hO2 hB2)
  have hn2 : n2 = n := by rw [H2.out.1.len]; exact HH.out.2.2.1.symm
  subst hn2
  obtain ⟨g, c3, e⟩ := H2.out.1.form (by intro e; injection e with _ e2 _; have := HH.out.2.2.2.2.2.1; omega)
  injection e with e1 e2 e3
  subst e1 e3
  clear e2
  have hcap := H2.out.1.rd.2.1
  have hcm := H2.out.1.rd.2.2.1
  have hge : w1.heap.size ≤ g := H2.out.1.addr_ge _ rfl
  have hmul : 6 * (N : Int) = ((6 * N : Nat) : Int) := by omega
  obtain ⟨M, hM⟩ : ∃ M, 6 * N = M := ⟨_, rfl⟩
  rw [hM] at hmul
  have hMw : IntKind.i64.wrap (M : Int) = (M : Int) := IntWalk.i64_in _ (by omega)
  have hob : Below w1.heap.size w1 w2 := H2.out.2
  obtain ⟨TR, hTR⟩ : ∃ T, unwrapR D b = T := ⟨_, rfl⟩
  have hfin : ∀ r, r = TR → TG = if r.take 8 = sgn then (r.drop 8, 0) else ([], 272) := fun r hr => by
    have h2 := H1.out.2.2
    unfold unwrapF at h2
    rw [hTR, ← hr] at h2
    exact h2.symm
  have hTR2 : uwN D N M b = TR := by
    rw [← hTR, ← hM]
    unfold unwrapR
    have h1 : b.length / 8 - 1 = N := by rw [← HH.out.2.2.1]; exact HH.out.2.2.2.2.1
    rw [h1]
  have HC := Lib.hid (And.intro H2.out.1 (And.intro hcap (And.intro hcm (And.intro hge (And.intro hM (And.intro hob (And.intro hfin hTR2)))))))
  have hs8 := slice_to (some ⟨g, 0, none⟩) n2 c2 8 (fun ad e => by cases e; rfl) (by omega)
  rw [show ((8 : Nat) : Int) = 8 from rfl] at hs8
  clear hcap hcm hge hM hob hfin hTR hTR2
  go_wp2_with fail
  go_loopw [9] (fun vt wr => ∃ (s : Nat) (r : List UInt8), vt = .int .i64 (s : Int) ∧ s ≤ M ∧ Own wr w1.heap.size (.slice (some ⟨g, 0, none⟩) n2 c2) r ∧ uwN D N s r = TR ∧ Below w1.heap.size w1 wr) (fun vt _ => (intOf vt).toNat)
  case atStart => exact ⟨M, b, rfl, Nat.le_refl _, HC.out.1, HC.out.2.2.2.2.2.2.2, HC.out.2.2.2.2.2.1⟩
  case round =>
    obtain ⟨t, r, rfl, hs, hO, hU, hBw⟩ := hrel
    by_cases hlt : 0 < t
    · obtain ⟨s, ht⟩ : ∃ s, s + 1 = t := ⟨t - 1, by omega⟩
      have ht2 : (t : Int) - 1 = (s : Int) := by omega
      have hsw : IntKind.i64.wrap (s : Int) = (s : Int) := IntWalk.i64_in _ (by omega)
      have htM : (t : Int) > 0 := by omega
      have htd : decide ((t : Int) > 0) = true := decide_eq_true htM
      obtain ⟨q, hq⟩ : ∃ q, s % N = q := ⟨_, rfl⟩
      have hqN : q < N := by rw [← hq]; exact Nat.mod_lt _ (by omega)
      have hm1 : (s : Int) % (N : Int) = (q : Int) := by rw [← hq]; rfl
      have hm2 : Int.tmod (s : Int) (N : Int) = (q : Int) := by rw [Int.tmod_eq_emod_of_nonneg (by omega)]; exact hm1
      have hN0 : ((N : Int) == 0) = false := by simp; omega
      have hN9 : ¬ (N : Int) = 0 := by omega
      obtain ⟨q1, hq1⟩ : ∃ q1, q + 1 = q1 := ⟨_, rfl⟩
      have hm3 : (q : Int) + 1 = (q1 : Int) := by omega
      have hm4 : IntKind.i64.wrap (q1 : Int) = (q1 : Int) := IntWalk.i64_in _ (by omega)
      obtain ⟨i, hi⟩ : ∃ i, 8 * q1 = i := ⟨_, rfl⟩
      have hm5 : 8 * (q1 : Int) = (i : Int) := by omega
      have hm6 : IntKind.i64.wrap (i : Int) = (i : Int) := IntWalk.i64_in _ (by omega)
      obtain ⟨i8, hi8⟩ : ∃ i8, i + 8 = i8 := ⟨_, rfl⟩
      have hm7 : (i : Int) + 8 = (i8 : Int) := by omega
      have hm8 : IntKind.i64.wrap (i8 : Int) = (i8 : Int) := IntWalk.i64_in _ (by omega)
      have hwi : wrI N s = i := by unfold wrI; rw [hq, hq1]; exact hi
      have hi8n : i8 ≤ n2 := by have := HN8.out; omega
      have hrl : r.length = n2 := hO.len.symm
      rw [← ht] at hU
      have hcvt : ∀ W : World, (convert 3 63 (.int .i64 (t : Int))).run Try.prog W = .ok (U64 (UInt64.ofNat t)) W := fun W => by
        rw [conv_int W .u64 Try.underlying3 Try.underlying63]
        congr 1
      have hR := Lib.hid (And.intro hO (And.intro hBw (And.intro hrl (And.intro hwi (And.intro hi8n (And.intro ht (And.intro hU hi8)))))))
      have HT := Lib.hid (And.intro hs8 hcvt)
      have hrA := hO.rd.front (k := 8) (by omega)
      have hsB := fun W : World => slice_both (some ⟨g, 0, none⟩) n2 c2 i i8 (by omega) (by have := HC.out.2.1; omega) W
      rw [if_neg (by have := HC.out.2.1; omega), show i8 - i = 8 by omega] at hsB
      simp only [Option.map_some, Addr.add_mid, Nat.zero_add] at hsB
      have hrB := hO.rd.cut (k := i) (by omega)
      rw [if_neg (by have := HC.out.2.1; omega)] at hrB
      simp only [Option.map_some, Addr.add_mid, Nat.zero_add] at hrB
      have hrB := hrB.front (k := 8) (by omega)
      have hsz1 : w1.heap.size ≤ wr.heap.size := hBw.size
      have HS := Lib.hid (And.intro hrA hrB)
      clear hO hBw hrl hwi hi8n ht hU hi8 hq hq1 hi hqN hcvt hrA hrB
      go_upto_region 12 with fail
      refine region_old (by kernel_rfl) (fun wd hHeld hSz => ?_)
      have HSz := Lib.hid hSz
      clear hSz
      have hOd := hHeld
      refine takeL (i := 0) (v := ?_) rfl (by kernel_rfl) (by kernel_rfl) (by kernel_rfl) (fun _ _ _ h => h) (Or.inl ⟨by rfl, ?_⟩) hHeld ?_
      rotate_left
      focus (intro wq hSw; clear hSw; go_simp; try with_reducible rfl)
      try simp only [Act.put, List.setIfInBounds_toArray, List.set_cons_zero, List.set_cons_succ]
      refine takeL (i := 1) (v := ?_) rfl (by kernel_rfl) (by kernel_rfl) (by kernel_rfl) (fun _ _ _ h => h) (Or.inl ⟨by rfl, ?_⟩) hHeld ?_
      rotate_left
      focus (intro wq hSw; have hRun := HT.out.1 wq; clear hSw; go_simp; try with_reducible rfl)
      try simp only [Act.put, List.setIfInBounds_toArray, List.set_cons_zero, List.set_cons_succ]
      refine takeL (i := 2) (v := ?_) rfl (by kernel_rfl) (by kernel_rfl) (by kernel_rfl) (fun _ _ _ h => h) (Or.inl ⟨by rfl, ?_⟩) hHeld ?_
      rotate_left
      focus (intro wq hSw; clear hSw; go_simp; try with_reducible rfl)
      try simp only [Act.put, List.setIfInBounds_toArray, List.set_cons_zero, List.set_cons_succ]
      refine takeL (i := 3) (v := ?_) rfl (by kernel_rfl) (by kernel_rfl) (by kernel_rfl) (fun _ _ _ h => h) (Or.inl ⟨by rfl, ?_⟩) hHeld ?_
      rotate_left
      focus (intro wq hSw; have hRun := HT.out.2 wq; clear hSw; go_simp; try with_reducible rfl)
      try simp only [Act.put, List.setIfInBounds_toArray, List.set_cons_zero, List.set_cons_succ]
      refine wpAnyH_ready (rs := [4]) (by kernel_rfl) (by simp) ?_
      refine consL rfl (fun K hK => ?_) AllReadyH.nil
      go_simp
      refine (append64_any (.slice none 0 0) (UInt64.ofNat t) [] wd wd.heap.size (Own.nil _ _) (Nat.le_refl _) (by simp)).mono ?_
      rintro e w5 ⟨v5, rfl, hO5, hT5, _⟩
      have hB5 : Old wd w5 := below_turn (Old.refl _) hT5 (by simp [Value.ownBlock]) (Nat.le_refl _)
      rw [List.nil_append] at hO5
      obtain ⟨A5, c5, rfl, _⟩ := hO5.shape
      refine hK.out _ _ (hHeld.trans hB5) (fun hHeld => ?_)
      clear hK K
      try simp only [Act.put, List.setIfInBounds_toArray, List.set_cons_zero, List.set_cons_succ]
      refine wpAnyH_ready (rs := [5]) (by kernel_rfl) (by simp) ?_
      refine consL rfl (fun K hK => ?_) AllReadyH.nil
      go_simp
      refine (xored_any (some ⟨g, 0, none⟩) A5 8 c2 (bytes64 (UInt64.ofNat t)).length c5 (r.take 8) _ w5 ((HS.out.1.below hOd).below hB5) hO5.rd (by rw [bytes64_len]; omega) (by omega)).mono ?_
      rintro e w6 ⟨rfl, hO6, hB6⟩
      refine hK.out _ _ (hHeld.trans hB6) (fun hHeld => ?_)
      clear hK K
      try simp only [Act.put, List.setIfInBounds_toArray, List.set_cons_zero, List.set_cons_succ]
      refine takeL (i := 6) (v := ?_) rfl (by kernel_rfl) (by kernel_rfl) (by kernel_rfl) (fun _ _ _ h => h) (Or.inl ⟨by rfl, ?_⟩) hHeld ?_
      rotate_left
      focus (intro wq hSw; clear hSw; go_simp; try with_reducible rfl)
      try simp only [Act.put, List.setIfInBounds_toArray, List.set_cons_zero, List.set_cons_succ]
      refine wpAnyH_done (by kernel_rfl) ?_ _
      refine NoPanic.normal ?_
      have hO12 : Old wr w6 := (hOd.trans hB5).trans hB6
      have ha8 : (xorL (r.take 8) (bytes64 (UInt64.ofNat t))).length = 8 := hO6.len.symm
      have HA := Lib.hid (And.intro (hO6.mono (show wr.heap.size ≤ w5.heap.size from Nat.le_trans hOd.size hB5.size)) (And.intro hO12 (And.intro ha8 hs)))
      clear hO12 ha8 hB5 hB6 hO5 hT5 hO6 hOd hHeld
      try simp only [Exit.then]
      try go_at_K
      go_upto_region 14 with (first | (at_builtin; refine wp_app2 (.tmp 58) (.tmp 63) wr.heap.size (.slice (some ⟨w5.heap.size, 0, none⟩) 8 8) _ HA.out.1 HA.out.2.1.size (some ⟨g, i, none⟩) 8 (c2 - i) _ (HS.out.2.below HA.out.2.1) (by rw [HA.out.2.2.1, ← HS.out.2.1]; omega) rfl rfl rfl rfl ?_; intro A7 n7 c7 w7 hn7 hG7; have hn7e : n7 = 16 := (by have h1 := hG7.len; rw [List.length_append, HA.out.2.2.1, ← HS.out.2.1] at h1; exact h1); subst hn7e; have H7 := Lib.hid (And.intro hG7 (HA.out.2.1.trans_below hG7.below)); clear hG7) | (go_at_call 57; refine (H1.out.1 w7 _ _ _ (Below.trans hR.out.2.1 (H7.out.2.mono hsz1)) H7.out.1.own.rd).mono ?_; rintro e wx ⟨sb, rfl, hRx, hBx, hsb⟩; have HX0 := Lib.hid (And.intro hRx (And.intro (H7.out.2.trans hBx) (show g < sb from Nat.lt_of_lt_of_le (Nat.lt_of_lt_of_le (hR.out.1.lt rfl).2 H7.out.2.size) hsb))); clear hRx hBx hsb))
      have hXX : uwX D N s r = D (xorL (r.take 8) (bytes64 (UInt64.ofNat t)) ++ (r.drop i).take 8) := by unfold uwX; rw [hR.out.2.2.2.1, hR.out.2.2.2.2.2.1]
      obtain ⟨x, hx⟩ : ∃ x, uwX D N s r = x := ⟨_, rfl⟩
      have HX := HX0.out
      rw [← hXX, hx] at HX
      obtain ⟨hX1, hX2, hX3⟩ := HX
      have hx8 := slice_to (some ⟨sb, 0, none⟩) 16 16 8 (fun ad e => by cases e; rfl) (by omega)
      rw [show ((8 : Nat) : Int) = 8 from rfl] at hx8
      have hox := hR.out.1.below hX2
      have hbx : Below w1.heap.size w1 wx := Below.trans hR.out.2.1 (hX2.mono hsz1)
      have HX := Lib.hid (And.intro hX1 (And.intro hox (And.intro hbx (And.intro hX3 hx))))
      clear hXX hx hX1 hX2 hX3 hox hbx HX0
      go_upto_region 15 with (refine wp_copyR rfl (.tmp 66) (.tmp 68) rfl w1.heap.size g n2 c2 0 n2 c2 r HX.out.2.1 rfl (by rw [hR.out.2.2.1]; omega) (some ⟨sb, 0, none⟩) 8 16 (x.take 8) rfl (HX.out.1.front (by omega)) ?_; intro w8 hO8 hG8; have H8 := Lib.hid (And.intro hO8 hG8); clear hO8 hG8)
      obtain ⟨r1, hr1⟩ : ∃ r1, splice r 0 ((x.take 8).take n2) = r1 := ⟨_, rfl⟩
      have hO8 := H8.out.1
      rw [hr1] at hO8
      have hT8 : Turn [g] wx w8 := Turn.of_grown (v := .slice (some ⟨g, 0, none⟩) 0 0) H8.out.2
      have hb18 : Below w1.heap.size w1 w8 := below_turn HX.out.2.2.1 hT8 (by simp; exact HC.out.2.2.2.1) HX.out.2.2.1.size
      have hx78 := (HX.out.1.turn hT8 (fun ad e => by cases e; simp; have := HX.out.2.2.2.1; omega)).cut (k := 8) (by omega)
      rw [if_neg (by omega)] at hx78
      simp only [Option.map_some, Addr.add_mid, Nat.zero_add] at hx78
      have hsC := fun W : World => slice_from (some ⟨g, 0, none⟩) n2 c2 i (by have := hR.out.2.2.2.2.1; have := hR.out.2.2.2.2.2.2.2; omega) W
      rw [if_neg (by have := HC.out.2.1; have := hR.out.2.2.2.2.1; have := hR.out.2.2.2.2.2.2.2; omega)] at hsC
      simp only [Option.map_some, Addr.add_mid, Nat.zero_add] at hsC
      have hsD := fun W : World => slice_from (some ⟨sb, 0, none⟩) 16 16 8 (by omega) W
      rw [if_neg (by omega), show ((8 : Nat) : Int) = 8 from rfl] at hsD
      simp only [Option.map_some, Addr.add_mid, Nat.zero_add] at hsD
      have HY := Lib.hid (And.intro hO8 (And.intro hx78 (And.intro hb18 (And.intro hr1 (And.intro hsC hsD)))))
      have hsz7 : w1.heap.size ≤ w8.heap.size := hb18.size
      clear hO8 hr1 hT8 hx78 hsC hsD hb18 hsB hx8
      refine region_belowB w1.heap.size hsz7 (by kernel_rfl) (fun wd hOd hHeld => ?_)
      refine takeL (i := 0) (v := ?_) rfl (by kernel_rfl) (by kernel_rfl) (by kernel_rfl) (fun _ _ _ h => h) (Or.inl ⟨by rfl, ?_⟩) hHeld ?_
      rotate_left
      focus (intro wq hSw; clear hSw; go_simp; try with_reducible rfl)
      try simp only [Act.put, List.setIfInBounds_toArray, List.set_cons_zero, List.set_cons_succ]
      refine takeL (i := 1) (v := ?_) rfl (by kernel_rfl) (by kernel_rfl) (by kernel_rfl) (fun _ _ _ h => h) (Or.inl ⟨by rfl, ?_⟩) hHeld ?_
      rotate_left
      focus (intro wq hSw; clear hSw; go_simp; try with_reducible rfl)
      try simp only [Act.put, List.setIfInBounds_toArray, List.set_cons_zero, List.set_cons_succ]
      refine takeL (i := 2) (v := ?_) rfl (by kernel_rfl) (by kernel_rfl) (by kernel_rfl) (fun _ _ _ h => h) (Or.inl ⟨by rfl, ?_⟩) hHeld ?_
      rotate_left
      focus (intro wq hSw; have hRun := HY.out.2.2.2.2.1 wq; clear hSw; go_simp; try with_reducible rfl)
      try simp only [Act.put, List.setIfInBounds_toArray, List.set_cons_zero, List.set_cons_succ]
      refine takeL (i := 3) (v := ?_) rfl (by kernel_rfl) (by kernel_rfl) (by kernel_rfl) (fun _ _ _ h => h) (Or.inl ⟨by rfl, ?_⟩) hHeld ?_
      rotate_left
      focus (intro wq hSw; clear hSw; go_simp; try with_reducible rfl)
      try simp only [Act.put, List.setIfInBounds_toArray, List.set_cons_zero, List.set_cons_succ]
      refine takeL (i := 4) (v := ?_) rfl (by kernel_rfl) (by kernel_rfl) (by kernel_rfl) (fun _ _ _ h => h) (Or.inl ⟨by rfl, ?_⟩) hHeld ?_
      rotate_left
      focus (intro wq hSw; have hRun := HY.out.2.2.2.2.2 wq; clear hSw; go_simp; try with_reducible rfl)
      try simp only [Act.put, List.setIfInBounds_toArray, List.set_cons_zero, List.set_cons_succ]
      refine wpAnyH_ready (rs := [5]) (by kernel_rfl) (by simp) ?_
      refine consL rfl (fun K hK => ?_) AllReadyH.nil
      refine step_copyR rfl (.tmp 72) (.tmp 74) rfl w1.heap.size g n2 c2 i (n2 - i) (c2 - i) r1 (HY.out.1.below hOd) rfl (by have h1 := HY.out.1.len; have := hR.out.2.2.2.2.1; have := hR.out.2.2.2.2.2.2.2; omega) (some ⟨sb, 8, none⟩) 8 8 (x.drop 8) rfl (HY.out.2.1.below hOd) (fun w9 hO9 hG9 => ?_)
      have hB9 : Below w1.heap.size wd w9 := (Below.refl _ _).grown hG9 (Nat.le_trans hsz7 hOd.size) (fun k hk => by cases hk; exact HC.out.2.2.2.1)
      refine hK.out _ _ (hHeld.trans hB9) (fun hHeld => ?_)
      clear hK K
      try simp only [Act.put, List.setIfInBounds_toArray, List.set_cons_zero, List.set_cons_succ]
      refine wpAnyH_done (by kernel_rfl) ?_ _
      refine NoPanic.normal ?_
      have hfin : splice r1 i ((x.drop 8).take (n2 - i)) = uwF D N s r := by
        have e2 := HY.out.2.2.2.1
        have hxl := HX.out.1.1
        rw [List.take_of_length_le (by rw [List.length_take]; have := hR.out.2.2.2.2.1; have := hR.out.2.2.2.2.2.2.2; omega)] at e2
        rw [List.take_of_length_le (by rw [List.length_drop]; have := hR.out.2.2.2.2.1; have := hR.out.2.2.2.2.2.2.2; omega)]
        unfold uwF
        rw [HX.out.2.2.2.2, hR.out.2.2.2.1, e2]
      rw [hfin] at hO9
      have HF := Lib.hid (And.intro hO9 (HY.out.2.2.1.trans hHeld))
      clear hO9 hfin hHeld hOd hG9 hB9 hsz7
      try simp only [Exit.then]
      try go_at_K
      go_wp2_with fail
      go_roundw
      case rel => exact ⟨s, uwF D N s r, rfl, by have := hR.out.2.2.2.2.2.1; have := HA.out.2.2.2; omega, HF.out.1, hR.out.2.2.2.2.2.2.1, HF.out.2⟩
      case measure => have := hR.out.2.2.2.2.2.1; simp [intOf]; omega
    · obtain rfl : t = 0 := by omega
      have htM : ¬ ((0 : Nat) : Int) > 0 := by omega
      have hU2 : r = TR := hU
      have hF := HC.out.2.2.2.2.2.2.1 r hU2
      have hrl : r.length = n2 := hO.len.symm
      have hstr := fun W (hW : Old wr W) => ((hO.rd.front (k := 8) (by have := HN8.out; omega)).below hW).str
      have hstr0 := hstr wr (Old.refl _)
      have HX := Lib.hid (And.intro hO (And.intro hBw (And.intro hF hrl)))
      clear hO hBw hU hU2 hF hrl hstr
      by_cases hsg : r.take 8 = sgn
      · have hse : (({ data := (r.take 8).toArray } : ByteArray) : ByteArray) = ⟨#[166, 166, 166, 166, 166, 166, 166, 166]⟩ := by rw [hsg]; rfl
        have hF := HX.out.2.2.1
        rw [if_pos hsg] at hF
        have hsC := fun W : World => slice_from (some ⟨g, 0, none⟩) n2 c2 8 (by have := HN8.out; omega) W
        rw [if_neg (by have := HC.out.2.1; have := HN8.out; omega), show ((8 : Nat) : Int) = 8 from rfl] at hsC
        simp only [Option.map_some, Addr.add_mid, Nat.zero_add] at hsC
        have hr8 := HX.out.1.rd.cut (k := 8) (by have := HN8.out; omega)
        rw [if_neg (by have := HC.out.2.1; have := HN8.out; omega)] at hr8
        simp only [Option.map_some, Addr.add_mid, Nat.zero_add] at hr8
        have HF := Lib.hid (And.intro hF hr8)
        rw [hse] at hstr0
        have hc8 : ¬ c2 = 8 := by have := HC.out.2.1; have := HN8.out; omega
        have hc9 : ¬ 8 = c2 := fun e => hc8 e.symm
        clear hF hr8 hsg hse
        go_wp2_with (go_at_call 40; refine (clone_own _ (n2 - 8) (c2 - 8) _ wr HF.out.2 (by have := HN8.out; omega)).mono ?_; rintro e w9 ⟨A9, n9, c9, rfl, hO9, hB9⟩; have H9 := Lib.hid (And.intro hO9 hB9); clear hO9 hB9)
        refine bodyPost_ret (results_tmp2 rfl _ _ _) rfl ?_
        rw [HF.out.1]
        exact ⟨_, _, _, rfl, H9.out.1.rd, (Old.trans_below H1.out.2.1 (HX.out.2.1.mono H1.out.2.1.size)).trans H9.out.2⟩
      · have hF := HX.out.2.2.1
        rw [if_neg hsg] at hF
        have hne : (⟨(r.take 8).toArray⟩ : ByteArray) ≠ ⟨#[166, 166, 166, 166, 166, 166, 166, 166]⟩ := fun e => hsg (by simpa [sgn] using congrArg (fun b => b.data.toList) e)
        have hsg2 : (r.take 8 == [166, 166, 166, 166, 166, 166, 166, 166]) = false := beq_eq_false_iff_ne.2 hsg
        have HF := Lib.hid hF
        clear hF hsg
        go_wp2_with fail
        refine bodyPost_ret (results_tmp2 rfl _ _ _) rfl ?_
        rw [HF.out]
        exact RvRes.nil _ _ _ (Old.trans_below H1.out.2.1 (HX.out.2.1.mono H1.out.2.1.size))
end Go.Proofs.Ytiocmebcbhbcmaa
