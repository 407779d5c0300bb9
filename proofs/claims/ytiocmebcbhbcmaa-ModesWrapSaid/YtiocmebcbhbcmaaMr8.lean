/-
  Modes, the document's answer: the key wrap undone: Unwrap.
-/
import Derived.Test.YtiocmebcbhbcmaaMr7
namespace Go.Proofs.Ytiocmebcbhbcmaa
set_option maxRecDepth 100000
open Go.RowKit

theorem uwX_pair (D : List UInt8 → List UInt8) (n s i : Nat) (a r : List UInt8) (ha : a.length = 8) (hi : s % n = i) : uwX D n s (a ++ r) = D (xorL a (bytes64 (UInt64.ofNat (s + 1))) ++ (r.drop (8 * i)).take 8) := by
  unfold uwX wrI
  rw [hi, List.take_append, List.drop_append, List.drop_eq_nil_of_le (by omega), List.nil_append, ha, List.take_of_length_le (by omega), show 8 * (i + 1) - 8 = 8 * i by omega, Nat.sub_self, List.take_zero, List.append_nil]
theorem uwF_pair (D : List UInt8 → List UInt8) (n s i : Nat) (a r x : List UInt8) (ha : a.length = 8) (hi : s % n = i) (hx : D (xorL a (bytes64 (UInt64.ofNat (s + 1))) ++ (r.drop (8 * i)).take 8) = x) (hxl : x.length = 16) :
    uwF D n s (a ++ r) = x.take 8 ++ splice r (8 * i) (x.drop 8) := by
  have hy : (x.take 8).length = 8 := by rw [List.length_take]; omega
  unfold uwF
  rw [uwX_pair D n s i a r ha hi, hx, splice_left a r _ (by rw [hy, ha]), show wrI n s = (x.take 8).length + 8 * i by unfold wrI; rw [hi, hy]; omega, splice_right]
/-- What stands between two rounds of the document's unwrap. -/
structure UwS (D : List UInt8 → List UInt8) (N s g n cr : Nat) (TR : List UInt8) (w1 wr : World) (Aa : Option Addr) (ca : Nat) (al rl : List UInt8) : Prop where
  a : Rd wr Aa 8 ca al
  ao : ∀ ad, Aa = some ad → ad.block ≠ g
  r : Own wr w1.heap.size (.slice (some ⟨g, 0, none⟩) n cr) rl
  st : uwN D N s (al ++ rl) = TR
  old : Old w1 wr
theorem runwrap_nokey (A C : Option Addr) (m c n cb : Nat) (w : World) (h : m ≠ 16 ∧ m ≠ 24 ∧ m ≠ 32) :
    Calls Try.prog 29 #[.slice A m c, .slice C n cb] w (RvRes w ([], 98)) := by
  have hc := rnew_no A m c w h
  clear h
  go_enter Try.func29, Try.ntmps29
  go_wp2_with fail
  refine hc.mono ?_
  rintro e w1 ⟨rfl, hw⟩
  subst hw
  go_wp2_with fail
  refine bodyPost_ret (results_tmp2 rfl _ _ _) rfl ?_
  exact RvRes.nil _ _ _ (Old.refl _)
theorem runwrap_nolen (A C : Option Addr) (mk ck n cb : Nat) (k : List UInt8) (w : World) (hk : Rd w A mk ck k) (hko : keyOk k) (hl : ¬ unwrapLen n) :
    Calls Try.prog 29 #[.slice A mk ck, .slice C n cb] w (RvRes w ([], 274)) := by
  have hcall := rnew_any A mk ck k w hk hko
  have HH := Lib.hid hcall
  clear hcall hk hko
  by_cases h1 : n < 24
  · have i1 : (n : Int) < 24 := by omega
    have d1 : decide ((n : Int) < 24) = true := decide_eq_true i1
    clear hl
    go_enter Try.func29, Try.ntmps29
    go_wp2_with fail
    refine HH.out.mono ?_
    rintro e w1 ⟨c, kb, R, cq, g1, g2, rfl, _, hB⟩
    have H1 := Lib.hid hB
    clear hB
    go_wp2_with fail
    refine bodyPost_ret (results_tmp2 rfl _ _ _) rfl ?_
    exact RvRes.nil _ _ _ H1.out
  · have i1 : ¬ (n : Int) < 24 := by omega
    have d1 : decide ((n : Int) < 24) = false := decide_eq_false i1
    by_cases h2 : 65536 < n
    · have i2 : (n : Int) > 65536 := by omega
      have d2 : decide ((n : Int) > 65536) = true := decide_eq_true i2
      clear hl h1 h2
      go_enter Try.func29, Try.ntmps29
      go_wp2_with fail
      refine HH.out.mono ?_
      rintro e w1 ⟨c, kb, R, cq, g1, g2, rfl, _, hB⟩
      have H1 := Lib.hid hB
      clear hB
      go_wp2_with fail
      refine bodyPost_ret (results_tmp2 rfl _ _ _) rfl ?_
      exact RvRes.nil _ _ _ H1.out
    · have i2 : ¬ (n : Int) > 65536 := by omega
      have d2 : decide ((n : Int) > 65536) = false := decide_eq_false i2
      have i3 : ¬ (n : Int) % 8 = 0 := by unfold unwrapLen at hl; omega
      have d3 : ((n : Int) % 8 != 0) = true := by simpa using i3
      clear hl h1 h2
      go_enter Try.func29, Try.ntmps29
      go_wp2_with fail
      refine HH.out.mono ?_
      rintro e w1 ⟨c, kb, R, cq, g1, g2, rfl, _, hB⟩
      have H1 := Lib.hid hB
      clear hB
      go_wp2_with fail
      refine bodyPost_ret (results_tmp2 rfl _ _ _) rfl ?_
      exact RvRes.nil _ _ _ H1.out
set_option maxHeartbeats 4000000 in
theorem runwrap_any (A C : Option Addr) (mk ck n cb : Nat) (k b : List UInt8) (w : World) (hk : Rd w A mk ck k) (hb : Rd w C n cb b) (hko : keyOk k) (hl : unwrapLen n) :
    Calls Try.prog 29 #[.slice A mk ck, .slice C n cb] w (RvRes w (unwrapF (decL (rks k) ((rks k).length / 16)) b)) := by
  have hcall := rnew_any A mk ck k w hk hko
  obtain ⟨TG, hTG⟩ : ∃ T, unwrapF (decL (rks k) ((rks k).length / 16)) b = T := ⟨_, rfl⟩
  rw [hTG]
  obtain ⟨l1, l2, l3⟩ := hl
  have i1 : ¬ (n : Int) < 24 := by omega
  have d1 : decide ((n : Int) < 24) = false := decide_eq_false i1
  have i2 : ¬ (n : Int) > 65536 := by omega
  have d2 : decide ((n : Int) > 65536) = false := decide_eq_false i2
  have i3 : (n : Int) % 8 = 0 := by omega
  have d3 : ((n : Int) % 8 != 0) = false := by simpa using i3
  obtain ⟨N, hN⟩ : ∃ N, n / 8 - 1 = N := ⟨_, rfl⟩
  obtain ⟨nr, hnr⟩ : ∃ nr, n - 8 = nr := ⟨_, rfl⟩
  have hquo : Int.tdiv (nr : Int) 8 = (N : Int) := by rw [Int.tdiv_eq_ediv_of_nonneg (by omega)]; omega
  have hquo2 : (nr : Int) / 8 = (N : Int) := by omega
  have hcb := hb.2.1
  have hsl := slice_to C n cb 8 hb.spot (by omega)
  rw [show ((8 : Nat) : Int) = 8 from rfl] at hsl
  have hfr := hb.front (k := 8) (by omega)
  obtain ⟨A6, n6, c6, hn6, hS6, hR6, _⟩ := hb.cut_ex2 (k := 8) (by omega)
  rw [hnr] at hn6
  have hn6 := hn6.symm
  subst hn6
  rw [show ((8 : Nat) : Int) = 8 from rfl] at hS6
  have HH := Lib.hid (And.intro hcall (And.intro hfr (And.intro hb.1 (And.intro hTG (And.intro hN (And.intro l1 (And.intro l2 (And.intro l3 (And.intro hR6 hnr)))))))))
  clear hcall hk hb hTG hN l1 l2 l3 hfr hR6 hnr hcb
  go_enter Try.func29, Try.ntmps29
  go_wp2_with fail
  refine HH.out.1.mono ?_
  rintro e w1 ⟨c, kb, R, cap, g1, g2, rfl, hC, hB⟩
  have hR : (rks k).length / 16 = R := by have : (rks k).length = 16 * R := hC.2.2.1; omega
  have hTG := HH.out.2.2.2.1
  rw [hR] at hTG
  have hDl : True := trivial
  have hen := REn.of hC
  obtain ⟨E, hE⟩ : ∃ E, encL (rks k) R = E := ⟨_, rfl⟩
  obtain ⟨D, hD⟩ : ∃ D, decL (rks k) R = D := ⟨_, rfl⟩
  rw [hE, hD] at hen
  rw [hD] at hTG
  have H1 := Lib.hid (And.intro hen (And.intro hDl (And.intro hB hTG)))
  clear hC hen hDl hE hD hR hB hko hTG
  go_upto_region 7 with (at_builtin; refine wp_app2 (.const (.slice none 0 0)) (.tmp 35) w1.heap.size (.slice none 0 0) [] (Own.nil _ _) (Nat.le_refl _) C 8 cb _ (HH.out.2.1.below H1.out.2.2.1) (by simp; omega) rfl rfl rfl rfl ?_; intro A2 n2 c2 w2 hn2 hG2; have H2 := Lib.hid hG2; clear hG2)
  have ho2 : Own w2 w1.heap.size (.slice A2 n2 c2) (b.take 8) := by have := H2.out.own; rwa [List.nil_append] at this
  have hn2e : n2 = 8 := by have h1 := ho2.len; rw [List.length_take, ← HH.out.2.2.1] at h1; have := HH.out.2.2.2.2.2.1; omega
  subst hn2e
  have ha2 : ∀ ad, A2 = some ad → ad.block < w2.heap.size := fun ad e => ho2.rd.lt ad e
  have H3 := Lib.hid (And.intro ho2.rd (And.intro H2.out.below ha2))
  clear ho2 hn2 ha2 H2
  go_upto_region 8 with (at_builtin; refine wp_app2 (.const (.slice none 0 0)) (.tmp 38) w2.heap.size (.slice none 0 0) [] (Own.nil _ _) (Nat.le_refl _) A6 nr c6 _ ((HH.out.2.2.2.2.2.2.2.2.1.below H1.out.2.2.1).below H3.out.2.1) (by have := HH.out.2.2.2.2.2.2.2.2.1.1; have := HH.out.2.2.2.2.2.2.1; have := HH.out.2.2.2.2.2.2.2.2.2; simp only [List.length_nil]; omega) rfl rfl rfl rfl ?_; intro A4 n4 cr w4 hn4 hG4; have H4 := Lib.hid hG4; clear hG4)
  have ho4 : Own w4 w2.heap.size (.slice A4 n4 cr) (b.drop 8) := by have := H4.out.own; rwa [List.nil_append] at this
  have hnb : (b.drop 8).length = nr := HH.out.2.2.2.2.2.2.2.2.1.1.symm
  have hb0 : b.drop 8 ≠ [] := by intro h; rw [h] at hnb; simp at hnb; have := HH.out.2.2.2.2.2.1; have := HH.out.2.2.2.2.2.2.2.2.2; omega
  obtain ⟨g, cz, he⟩ := ho4.form (fun h => hb0 (H4.out.nil h))
  cases he
  rw [hnb] at ho4 ⊢
  have hgs : w2.heap.size ≤ g := ho4.addr_ge _ rfl
  have hN1 : 2 ≤ N := by have := HH.out.2.2.2.2.1; have := HH.out.2.2.2.2.2.1; omega
  have hN2 : N ≤ 8191 := by have := HH.out.2.2.2.2.1; have := HH.out.2.2.2.2.2.2.1; omega
  have hn8 : nr = 8 * N := by have := HH.out.2.2.2.2.1; have := HH.out.2.2.2.2.2.2.2.1; have := HH.out.2.2.2.2.2.2.2.2.2; omega
  have hncr : nr ≤ cr := ho4.rd.2.1
  obtain ⟨TR, hTR⟩ : ∃ T, unwrapR D b = T := ⟨_, rfl⟩
  have hfin : ∀ r, r = TR → TG = if r.take 8 = sgn then (r.drop 8, 0) else ([], 272) := fun r hr => by
    have h2 := H1.out.2.2.2
    unfold unwrapF at h2
    rw [hTR, ← hr] at h2
    exact h2.symm
  have hTR2 : uwN D N (N * 6) (b.take 8 ++ b.drop 8) = TR := by
    rw [← hTR, List.take_append_drop, Nat.mul_comm]
    unfold unwrapR
    have h1 : b.length / 8 - 1 = N := by rw [← HH.out.2.2.1]; exact HH.out.2.2.2.2.1
    rw [h1]
  have hst : UwS D N (N * 6) g nr cr TR w1 w4 A2 c2 (b.take 8) (b.drop 8) := ⟨H3.out.1.below H4.out.below, fun ad e => by have := H3.out.2.2 ad e; omega, ho4.mono H3.out.2.1.size, hTR2, Old.trans H3.out.2.1 H4.out.below⟩
  have hs1 : w1.heap.size ≤ g := Nat.le_trans H3.out.2.1.size hgs
  have HS := Lib.hid (And.intro hst (And.intro hs1 (And.intro hn8 (And.intro hncr hfin))))
  have hNw : IntKind.i64.wrap ((N : Int) - 1) = (N : Int) - 1 := IntWalk.i64_in _ (by omega)
  have hnM : nr ≤ 65528 := by have := HH.out.2.2.2.2.2.2.1; have := HH.out.2.2.2.2.2.2.2.2.2; omega
  clear hst hgs hs1 hn8 hncr ho4 hb0 hnb hn4 H4 H3 hTR hfin hTR2
  go_wp2_with fail
  go_loopw [7, 10] (fun va jv wr => ∃ j : Nat, j ≤ 6 ∧ jv = .int .i64 ((j : Int) - 1) ∧ ∃ (Aa : Option Addr) (ca : Nat) (al rl : List UInt8), va = .slice Aa 8 ca ∧ UwS D N (N * j) g nr cr TR w1 wr Aa ca al rl) (fun _ jv _ => (intOf jv + 1).toNat)
  case atStart => exact ⟨6, by omega, rfl, _, _, _, _, rfl, HS.out.1⟩
  case round =>
    obtain ⟨jj, hj6, rfl, Aa, ca, al, rl, rfl, hW⟩ := hrel
    by_cases hlt : 0 < jj
    · obtain ⟨j, rfl⟩ : ∃ j, jj = j + 1 := ⟨jj - 1, by omega⟩
      have hje : ((j + 1 : Nat) : Int) - 1 = (j : Int) := by omega
      rw [hje]
      have hq : (j : Int) ≥ 0 := by omega
      have hqd : decide ((j : Int) ≥ 0) = true := decide_eq_true hq
      obtain ⟨M, hM⟩ : ∃ M, N * j = M := ⟨_, rfl⟩
      have hMi : (N : Int) * (j : Int) = (M : Int) := by rw [← hM]; simp
      have hMb : M ≤ 49146 := by rw [← hM]; exact Nat.le_trans (Nat.mul_le_mul hN2 (show j ≤ 6 by omega)) (by decide)
      have hMw : IntKind.i64.wrap (M : Int) = (M : Int) := IntWalk.i64_in _ (by omega)
      have hj1w : IntKind.i64.wrap ((j : Int) - 1) = (j : Int) - 1 := IntWalk.i64_in _ (by omega)
      rw [Nat.mul_succ, hM] at hW
      have HW := Lib.hid (And.intro hW hM)
      clear hW hM hlt hje
      go_wp2_with fail
      go_loopw [7, 11] (fun va iv wr => ∃ i : Nat, i ≤ N ∧ iv = .int .i64 ((i : Int) - 1) ∧ ∃ (Aa : Option Addr) (ca : Nat) (al rl : List UInt8), va = .slice Aa 8 ca ∧ UwS D N (M + i) g nr cr TR w1 wr Aa ca al rl) (fun _ iv _ => (intOf iv + 1).toNat)
      case atStart => exact ⟨N, Nat.le_refl _, rfl, _, _, _, _, rfl, HW.out.1⟩
      case round =>
        obtain ⟨ii, hiN, rfl, Ab, cab, al2, rl2, rfl, hV⟩ := hrel
        by_cases hlN : 0 < ii
        · obtain ⟨i, rfl⟩ : ∃ i, ii = i + 1 := ⟨ii - 1, by omega⟩
          have hie : ((i + 1 : Nat) : Int) - 1 = (i : Int) := by omega
          rw [hie]
          have hqi : (i : Int) ≥ 0 := by omega
          have hqid : decide ((i : Int) ≥ 0) = true := decide_eq_true hqi
          have hi0w : IntKind.i64.wrap ((i : Int) - 1) = (i : Int) - 1 := IntWalk.i64_in _ (by omega)
          obtain ⟨p, hp⟩ : ∃ p, 8 * i = p := ⟨_, rfl⟩
          have hpi : 8 * (i : Int) = (p : Int) := by omega
          have hpw : IntKind.i64.wrap (p : Int) = (p : Int) := IntWalk.i64_in _ (by omega)
          obtain ⟨p8, hp8⟩ : ∃ p8, p + 8 = p8 := ⟨_, rfl⟩
          have hp8i : (p : Int) + 8 = (p8 : Int) := by omega
          have hp8w : IntKind.i64.wrap (p8 : Int) = (p8 : Int) := IntWalk.i64_in _ (by omega)
          obtain ⟨s, hs⟩ : ∃ s, M + i = s := ⟨_, rfl⟩
          have hsi : (M : Int) + (i : Int) = (s : Int) := by omega
          have hsw : IntKind.i64.wrap (s : Int) = (s : Int) := IntWalk.i64_in _ (by omega)
          obtain ⟨t, ht⟩ : ∃ t, s + 1 = t := ⟨_, rfl⟩
          have hti : (s : Int) + 1 = (t : Int) := by omega
          have htw : IntKind.i64.wrap (t : Int) = (t : Int) := IntWalk.i64_in _ (by omega)
          have hsm : s % N = i := by rw [← hs, ← HW.out.2, Nat.mul_comm N j, Nat.mul_add_mod_of_lt (by omega)]
          have hp8n : p8 ≤ nr := by have := HS.out.2.2.1; omega
          rw [← Nat.add_assoc, hs] at hV
          have htb : t ≤ 100000 := by omega
          have HI := Lib.hid (And.intro hp (And.intro hp8 (And.intro hs (And.intro ht (And.intro hsm hp8n)))))
          have HV := Lib.hid hV
          have hal8 : al2.length = 8 := hV.a.1.symm
          have hrl8 : rl2.length = nr := hV.r.len.symm
          have hsB := fun W : World => slice_both (some ⟨g, 0, none⟩) nr cr p p8 (by omega) (by have := HS.out.2.2.2.1; omega) W
          rw [if_neg (by have := HS.out.2.2.2.1; omega), show p8 - p = 8 by omega] at hsB
          simp only [Option.map_some, Addr.add_mid, Nat.zero_add] at hsB
          have hrB := hV.r.rd.cut (k := p) (by omega)
          rw [if_neg (by have := HS.out.2.2.2.1; omega)] at hrB
          simp only [Option.map_some, Addr.add_mid, Nat.zero_add] at hrB
          have hrB := hrB.front (k := 8) (by omega)
          have HB := Lib.hid (And.intro hsB (And.intro hrB (And.intro hal8 hrl8)))
          clear hsB hrB hp hp8 hs ht hsm hp8n hlN hV hal8 hrl8 hie
          go_upto_region 16 with (go_at_call 56; refine (eight_any t wr (by omega)).mono ?_; rintro e w6 ⟨rfl, hO6, hB6⟩; have H6 := Lib.hid (And.intro hO6 hB6); clear hO6 hB6)
          refine region_old (by kernel_rfl) (fun wd hHeld hSz => ?_)
          have HSz := Lib.hid hSz
          clear hSz
          have hOd := hHeld
          refine takeL (i := 0) (v := ?_) rfl (by kernel_rfl) (by kernel_rfl) (by kernel_rfl) (fun _ _ _ h => h) (Or.inl ⟨by rfl, ?_⟩) hHeld ?_
          rotate_left
          focus (intro wq hSw; clear hSw; go_simp; try with_reducible rfl)
          try simp only [Act.put, List.setIfInBounds_toArray, List.set_cons_zero, List.set_cons_succ]
          refine takeL (i := 1) (v := ?_) rfl (by kernel_rfl) (by kernel_rfl) (by kernel_rfl) (fun _ _ _ h => h) (Or.inl ⟨by rfl, ?_⟩) hHeld ?_
          rotate_left
          focus (intro wq hSw; clear hSw; go_simp; try with_reducible rfl)
          try simp only [Act.put, List.setIfInBounds_toArray, List.set_cons_zero, List.set_cons_succ]
          refine takeL (i := 2) (v := ?_) rfl (by kernel_rfl) (by kernel_rfl) (by kernel_rfl) (fun _ _ _ h => h) (Or.inl ⟨by rfl, ?_⟩) hHeld ?_
          rotate_left
          focus (intro wq hSw; clear hSw; go_simp; try with_reducible rfl)
          try simp only [Act.put, List.setIfInBounds_toArray, List.set_cons_zero, List.set_cons_succ]
          refine takeL (i := 4) (v := ?_) rfl (by kernel_rfl) (by kernel_rfl) (by kernel_rfl) (fun _ _ _ h => h) (Or.inl ⟨by rfl, ?_⟩) hHeld ?_
          rotate_left
          focus (intro wq hSw; clear hSw; go_simp; try with_reducible rfl)
          try simp only [Act.put, List.setIfInBounds_toArray, List.set_cons_zero, List.set_cons_succ]
          refine takeL (i := 5) (v := ?_) rfl (by kernel_rfl) (by kernel_rfl) (by kernel_rfl) (fun _ _ _ h => h) (Or.inl ⟨by rfl, ?_⟩) hHeld ?_
          rotate_left
          focus (intro wq hSw; clear hSw; go_simp; try with_reducible rfl)
          try simp only [Act.put, List.setIfInBounds_toArray, List.set_cons_zero, List.set_cons_succ]
          refine takeL (i := 6) (v := ?_) rfl (by kernel_rfl) (by kernel_rfl) (by kernel_rfl) (fun _ _ _ h => h) (Or.inl ⟨by rfl, ?_⟩) hHeld ?_
          rotate_left
          focus (intro wq hSw; clear hSw; go_simp; try with_reducible rfl)
          try simp only [Act.put, List.setIfInBounds_toArray, List.set_cons_zero, List.set_cons_succ]
          refine takeL (i := 7) (v := ?_) rfl (by kernel_rfl) (by kernel_rfl) (by kernel_rfl) (fun _ _ _ h => h) (Or.inl ⟨by rfl, ?_⟩) hHeld ?_
          rotate_left
          focus (intro wq hSw; clear hSw; go_simp; try with_reducible rfl)
          try simp only [Act.put, List.setIfInBounds_toArray, List.set_cons_zero, List.set_cons_succ]
          refine takeL (i := 8) (v := ?_) rfl (by kernel_rfl) (by kernel_rfl) (by kernel_rfl) (fun _ _ _ h => h) (Or.inl ⟨by rfl, ?_⟩) hHeld ?_
          rotate_left
          focus (intro wq hSw; clear hSw; go_simp; try with_reducible rfl)
          try simp only [Act.put, List.setIfInBounds_toArray, List.set_cons_zero, List.set_cons_succ]
          refine takeL (i := 9) (v := ?_) rfl (by kernel_rfl) (by kernel_rfl) (by kernel_rfl) (fun _ _ _ h => h) (Or.inl ⟨by rfl, ?_⟩) hHeld ?_
          rotate_left
          focus (intro wq hSw; clear hSw; go_simp; try with_reducible rfl)
          try simp only [Act.put, List.setIfInBounds_toArray, List.set_cons_zero, List.set_cons_succ]
          refine takeL (i := 10) (v := ?_) rfl (by kernel_rfl) (by kernel_rfl) (by kernel_rfl) (fun _ _ _ h => h) (Or.inl ⟨by rfl, ?_⟩) hHeld ?_
          rotate_left
          focus (intro wq hSw; have hRun := HB.out.1 wq; clear hSw; go_simp; try with_reducible rfl)
          try simp only [Act.put, List.setIfInBounds_toArray, List.set_cons_zero, List.set_cons_succ]
          refine wpAnyH_ready (rs := [3]) (by kernel_rfl) (by simp) ?_
          refine consL rfl (fun K hK => ?_) AllReadyH.nil
          go_simp
          refine (rxorn_any Ab (some ⟨wr.heap.size, 0, none⟩) 8 cab 8 8 al2 _ wd ((HV.out.a.below H6.out.2).below hOd) (H6.out.1.rd.below hOd) (Nat.le_refl _) (by omega)).mono ?_
          rintro e w3 ⟨rfl, hO3, hB3⟩
          refine hK.out _ _ (Old.trans hHeld hB3) (fun hHeld => ?_)
          clear hK K
          try simp only [Act.put, List.setIfInBounds_toArray, List.set_cons_zero, List.set_cons_succ]
          refine wpAnyH_ready (rs := [11]) (by kernel_rfl) (by simp) ?_
          refine consL rfl (fun K hK => ?_) AllReadyH.nil
          refine step_app2 (.tmp 63) (.tmp 70) wd.heap.size (.slice (some ⟨wd.heap.size, 0, none⟩) 8 8) _ hO3 hB3.size (some ⟨g, p, none⟩) 8 (cr - p) _ (((HB.out.2.1.below H6.out.2).below hOd).below hB3) (by rw [← hO3.len, ← HB.out.2.1.1]; omega) rfl rfl rfl rfl (fun A4 n4 c4 w4 hn4 hG4 => ?_)
          have hn4e : n4 = 16 := by have h1 := hG4.len; rw [List.length_append, ← hO3.len, ← HB.out.2.1.1] at h1; exact h1
          subst hn4e
          have hOx4 : Old w6 w4 := ((hOd.trans hB3).trans_below (hG4.below.mono hOd.size))
          refine hK.out _ _ hOx4 (fun hHeld => ?_)
          clear hK K
          try simp only [Act.put, List.setIfInBounds_toArray, List.set_cons_zero, List.set_cons_succ]
          refine wpAnyH_ready (rs := [12]) (by kernel_rfl) (by simp) ?_
          refine consL rfl (fun K hK => ?_) AllReadyH.nil
          go_simp
          refine (H1.out.1.2 w4 _ _ _ (Old.trans HV.out.old (Old.trans H6.out.2 hOx4)) hG4.own.rd).mono ?_
          rintro e wx ⟨sb, rfl, hRx, hBx, hsb⟩
          refine hK.out _ _ (Old.trans hHeld hBx) (fun hHeld => ?_)
          clear hK K
          try simp only [Act.put, List.setIfInBounds_toArray, List.set_cons_zero, List.set_cons_succ]
          refine takeL (i := 13) (v := ?_) rfl (by kernel_rfl) (by kernel_rfl) (by kernel_rfl) (fun _ _ _ h => h) (Or.inl ⟨by rfl, ?_⟩) hHeld ?_
          rotate_left
          focus (intro wq hSw; clear hSw; go_simp; try with_reducible rfl)
          try simp only [Act.put, List.setIfInBounds_toArray, List.set_cons_zero, List.set_cons_succ]
          refine wpAnyH_done (by kernel_rfl) ?_ _
          refine NoPanic.normal ?_
          obtain ⟨x, hx⟩ : ∃ x, D (xorL al2 (bytes64 (UInt64.ofNat t)) ++ (rl2.drop p).take 8) = x := ⟨_, rfl⟩
          rw [hx] at hRx
          have hxl : x.length = 16 := hRx.1.symm
          have hOx : Old wr wx := Old.trans H6.out.2 (Old.trans hOx4 hBx)
          have hgw4 : g < sb := Nat.lt_of_lt_of_le (HV.out.r.lt rfl).2 (Nat.le_trans (Old.trans H6.out.2 hOx4).size hsb)
          have hx8 := slice_to (some ⟨sb, 0, none⟩) 16 16 8 (fun ad e => by cases e; rfl) (by omega)
          rw [show ((8 : Nat) : Int) = 8 from rfl] at hx8
          have HX := Lib.hid (And.intro hRx (And.intro hOx (And.intro hx (And.intro hxl hgw4))))
          clear hx hxl hOx hgw4 hRx hOd hHeld hO3 hB3 hG4 hOx4 hBx hsb
          try simp only [Exit.then]
          try go_at_K
          go_upto_region 18 with (at_builtin; refine wp_app2 (.const (.slice none 0 0)) (.tmp 74) wx.heap.size (.slice none 0 0) [] (Own.nil _ _) (Nat.le_refl _) (some ⟨sb, 0, none⟩) 8 16 _ (HX.out.1.front (by omega)) (by simp; omega) rfl rfl rfl rfl ?_; intro A7 n7 c7 w7 hn7 hG7; have H7 := Lib.hid hG7; clear hG7)
          have ho7 : Own w7 wx.heap.size (.slice A7 n7 c7) (x.take 8) := by have := H7.out.own; rwa [List.nil_append] at this
          have hn7e : n7 = 8 := by have h1 := ho7.len; rw [List.length_take, HX.out.2.2.2.1] at h1; omega
          subst hn7e
          have hO17 : Old wr w7 := Old.trans HX.out.2.1 H7.out.below
          have hO07 : Old w1 w7 := Old.trans HV.out.old hO17
          have hx7 := HX.out.1.below H7.out.below
          have hr7 := HV.out.r.below hO17
          have hg7 : g < wx.heap.size := Nat.lt_of_lt_of_le (HV.out.r.lt rfl).2 HX.out.2.1.size
          have H8 := Lib.hid (And.intro hO07 (And.intro hx7 (And.intro hr7 (And.intro hg7 ho7))))
          clear hO17 hO07 hx7 hr7 hg7 hx8 ho7 hn7 H7
          go_wp2_with fail
          go_loopw [14] (fun kv wl => ∃ k : Nat, k ≤ 8 ∧ kv = .int .i64 (k : Int) ∧ Own wl w1.heap.size (.slice (some ⟨g, 0, none⟩) nr cr) (splice rl2 p ((x.drop 8).take k)) ∧ Turn [g] w7 wl) (fun kv _ => 8 - (intOf kv).toNat)
          case atStart => exact ⟨0, by omega, rfl, by rw [splice_zero]; exact H8.out.2.2.1, Turn.refl _ _⟩
          case round =>
            obtain ⟨k, hk8, rfl, hOk, hTk⟩ := hrel
            by_cases hlk : k < 8
            · have hqk : (k : Int) < 8 := by omega
              have hqkd : decide ((k : Int) < 8) = true := decide_eq_true hqk
              obtain ⟨q, hqe⟩ : ∃ q, 8 + k = q := ⟨_, rfl⟩
              have hqe1 : 8 + (k : Int) = (q : Int) := by omega
              have hqe2 : IntKind.i64.wrap (q : Int) = (q : Int) := IntWalk.i64_in _ (by omega)
              have hq16 : (q : Int) < 16 := by omega
              obtain ⟨pk, hpk⟩ : ∃ pk, p + k = pk := ⟨_, rfl⟩
              have hpk1 : (p : Int) + (k : Int) = (pk : Int) := by omega
              have hpk2 : IntKind.i64.wrap (pk : Int) = (pk : Int) := IntWalk.i64_in _ (by have := HI.out.1; omega)
              have hpkn : (pk : Int) < (nr : Int) := by have := HI.out.2.1; have := HI.out.2.2.2.2.2; omega
              obtain ⟨k1, hk1⟩ : ∃ k1, k + 1 = k1 := ⟨_, rfl⟩
              have hk1i : (k : Int) + 1 = (k1 : Int) := by omega
              have hk1w : IntKind.i64.wrap (k1 : Int) = (k1 : Int) := IntWalk.i64_in _ (by omega)
              obtain ⟨z, hz⟩ : ∃ z, x[q]? = some z := ⟨_, List.getElem?_eq_getElem (by rw [HX.out.2.2.2.1]; omega)⟩
              have hxk : Rd wr (some ⟨sb, 0, none⟩) 16 16 x := H8.out.2.1.turn hTk (fun ad e => by cases e; simp; have := HX.out.2.2.2.2; omega)
              obtain ⟨bb, ob, hbe, hat⟩ := hxk.addr (by decide)
              cases hbe
              have y0 := hat.2 q z hz
              rw [Nat.zero_add] at y0
              have y3 := hOk.frozen pk
              obtain ⟨z0, hz0⟩ : ∃ z0, (splice rl2 p ((x.drop 8).take k))[pk]? = some z0 := ⟨_, List.getElem?_eq_getElem (by rw [← hOk.len]; omega)⟩
              have y2 := hOk.cell pk z0 hz0
              have hO9 := hOk.set_ pk z (by omega)
              have hdz : (x.drop 8)[k]? = some z := by rw [List.getElem?_drop, hqe]; exact hz
              rw [← hpk, splice_step rl2 (x.drop 8) p k z hdz (by rw [List.length_drop, HX.out.2.2.2.1, HB.out.2.2.2]; have := HI.out.2.1; have := HI.out.2.2.2.2.2; omega), hpk, hk1] at hO9
              have hT9 : Turn [g] w7 (wr.setCell ⟨g, pk, none⟩ (B z)) := hTk.setCell (p := ⟨g, pk, none⟩) (.inl (by simp)) _
              have H9 := Lib.hid (And.intro hO9 (And.intro hT9 hk1))
              clear hOk hTk hlk hqe hpk hk1 hz hxk hat hO9 hT9 hdz hz0
              go_wp2_with fail
              go_roundw
              case rel => exact ⟨k1, by omega, rfl, H9.out.1, H9.out.2.1⟩
              case measure => have := H9.out.2.2; simp [intOf]; omega
            · obtain rfl : k = 8 := by omega
              have hqk : ¬ ((8 : Nat) : Int) < 8 := by omega
              have hxd : (x.drop 8).take 8 = x.drop 8 := List.take_of_length_le (by rw [List.length_drop, HX.out.2.2.2.1]; omega)
              rw [hxd] at hOk
              have hst : UwS D N (M + i) g nr cr TR w1 wr A7 c7 (x.take 8) (splice rl2 p (x.drop 8)) := by
                refine ⟨H8.out.2.2.2.2.rd.turn hTk ?_, ?_, hOk, ?_, below_turn H8.out.1 hTk ?_ H8.out.1.size⟩
                · intro ad e; have h1 := H8.out.2.2.2.2.addr_ge ad e; simp; have := H8.out.2.2.2.1; omega
                · intro ad e; have h1 := H8.out.2.2.2.2.addr_ge ad e; have := H8.out.2.2.2.1; omega
                · have h1 := HV.out.st
                  have h2 := uwF_pair D N s i al2 rl2 x HB.out.2.2.1 HI.out.2.2.2.2.1 (by rw [HI.out.1, HI.out.2.2.2.1]; exact HX.out.2.2.1) HX.out.2.2.2.1
                  rw [HI.out.1] at h2
                  rw [HI.out.2.2.1, ← h2]
                  exact h1
                · intro u hu; cases hu with | head => exact HS.out.2.1 | tail _ h => cases h
              have H9 := Lib.hid hst
              clear hOk hTk hxd hst
              go_wp2_with fail
              go_roundw
              case rel => exact ⟨i, by omega, rfl, _, _, _, _, rfl, H9.out⟩
              case measure => simp [intOf] <;> omega
        · obtain rfl : ii = 0 := by omega
          rw [show ((0 : Nat) : Int) - 1 = -1 from rfl]
          have HV := Lib.hid hV
          clear hV hlN
          go_wp2_with fail
          go_roundw
          case rel => exact ⟨j, by omega, rfl, _, _, _, _, rfl, by rw [HW.out.2]; exact HV.out⟩
          case measure => simp [intOf] <;> omega
    · obtain rfl : jj = 0 := by omega
      rw [show ((0 : Nat) : Int) - 1 = -1 from rfl]
      have ht : al ++ rl = TR := hW.st
      have ha8 : al.length = 8 := hW.a.1.symm
      have hTGe := HS.out.2.2.2.2 _ ht
      rw [List.take_append_of_le_length (by omega), List.take_of_length_le (by omega), List.drop_append_of_le_length (by omega), List.drop_eq_nil_of_le (by omega), List.nil_append] at hTGe
      obtain ⟨ba, oa, rfl, haa⟩ := hW.a.addr (by decide)
      have hca := hW.a.2.1
      have HW := Lib.hid (And.intro hW (And.intro ha8 (And.intro hTGe (And.intro haa hca))))
      clear hW hlt ht ha8 hTGe haa
      go_wp2_with fail
      go_loopw [15] (fun iv wl => ∃ i : Nat, i ≤ 8 ∧ iv = .int .i64 (i : Int) ∧ al.take i = sgn.take i ∧ wr = wl) (fun iv _ => 8 - (intOf iv).toNat)
      case atStart => exact ⟨0, by omega, rfl, rfl, rfl⟩
      case round =>
        obtain ⟨i, hi8, rfl, hpre, rfl⟩ := hrel
        by_cases hlk : i < 8
        · have hqk : (i : Int) < 8 := by omega
          have hqkd : decide ((i : Int) < 8) = true := decide_eq_true hqk
          obtain ⟨z, hz⟩ : ∃ z, al[i]? = some z := ⟨_, List.getElem?_eq_getElem (by rw [HW.out.2.1]; exact hlk)⟩
          have y0 := HW.out.2.2.2.1.2 i z hz
          have hsz : sgn[i]? = some 166 := by
            have : i = 0 ∨ i = 1 ∨ i = 2 ∨ i = 3 ∨ i = 4 ∨ i = 5 ∨ i = 6 ∨ i = 7 := by omega
            rcases this with rfl | rfl | rfl | rfl | rfl | rfl | rfl | rfl <;> rfl
          obtain ⟨i1, hi1⟩ : ∃ i1, i + 1 = i1 := ⟨_, rfl⟩
          have hi1i : (i : Int) + 1 = (i1 : Int) := by omega
          have hi1w : IntKind.i64.wrap (i1 : Int) = (i1 : Int) := IntWalk.i64_in _ (by omega)
          by_cases hz6 : z = 166
          · subst hz6
            have hn : al.take i1 = sgn.take i1 := by rw [← hi1, List.take_add_one, List.take_add_one, hpre, hz, hsz]
            have HN := Lib.hid (And.intro hn hi1)
            clear hpre hz hsz hlk hi1 hn
            go_wp2_with fail
            go_roundw
            case rel => exact ⟨i1, by have := HN.out.2; omega, rfl, HN.out.1, (by first | rfl | trivial)⟩
            case measure => have := HN.out.2; simp [intOf]; omega
          · have hne : ¬ al = sgn := by
              intro h
              rw [h, hsz] at hz
              cases hz
              exact hz6 rfl
            have HN := Lib.hid hne
            have hnz1 : isN z 166 = false := by
              unfold isN
              have : ¬ (z.toNat : Int) = 166 := fun h => hz6 (UInt8.toNat_inj.1 (by show z.toNat = 166; omega))
              simpa using this
            clear hpre hz hsz hlk hi1 hne hz6
            go_wp2_with fail
            refine bodyPost_ret (results_tmp2 rfl _ _ _) rfl ?_
            rw [HW.out.2.2.1, if_neg HN.out]
            exact RvRes.nil _ _ _ (Old.trans H1.out.2.2.1 HW.out.1.old)
        · obtain rfl : i = 8 := by omega
          have hqk : ¬ ((8 : Nat) : Int) < 8 := by omega
          have he : al = sgn := by
            rw [List.take_of_length_le (by rw [HW.out.2.1]; omega)] at hpre
            exact hpre
          have HN := Lib.hid he
          clear hpre hlk he
          go_wp2_with fail
          refine bodyPost_ret (results_tmp2 rfl _ _ _) rfl ?_
          rw [HW.out.2.2.1, if_pos HN.out]
          exact ⟨_, _, _, rfl, HW.out.1.r.rd, Old.trans H1.out.2.2.1 HW.out.1.old⟩
end Go.Proofs.Ytiocmebcbhbcmaa
