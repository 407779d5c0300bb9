/-
  Modes, the document's answer: the key wrap: Wrap.
-/
import Derived.Test.YtiocmebcbhbcmaaZzMr6
import Derived.Test.YtiocmebcbhbcmaaMo22
namespace Go.Proofs.Ytiocmebcbhbcmaa
set_option maxRecDepth 100000
open Go.RowKit

theorem splice_step (r l : List UInt8) (p k : Nat) (x : UInt8) (hx : l[k]? = some x) (hp : p + l.length ≤ r.length) : (splice r p (l.take k)).set (p + k) x = splice r p (l.take (k + 1)) := by
  have hk : k < l.length := by
    rcases Nat.lt_or_ge k l.length with h | h
    · exact h
    · rw [List.getElem?_eq_none h] at hx; cases hx
  have e1 : (r.take p).length = p := by rw [List.length_take]; omega
  have e2 : (l.take k).length = k := by rw [List.length_take]; omega
  have e3 : r.drop (p + k) = r[p + k] :: r.drop (p + k + 1) := List.drop_eq_getElem_cons (by omega)
  have e4 : l.take (k + 1) = l.take k ++ [x] := by rw [List.take_add_one, hx]; rfl
  unfold splice
  rw [e4, List.length_append, e2, e3, List.set_append_right _ _ (by omega), e1, List.set_append_right _ _ (by omega), e2, show p + k - p - k = 0 by omega, List.set_cons_zero, List.append_assoc]
  rfl
theorem splice_zero (r l : List UInt8) (p : Nat) : splice r p (l.take 0) = r := by simp [splice]
theorem splice_right (a r z : List UInt8) (p : Nat) : splice (a ++ r) (a.length + p) z = a ++ splice r p z := by
  unfold splice
  rw [List.take_append, List.drop_append, List.take_of_length_le (by omega), List.drop_eq_nil_of_le (by omega), List.nil_append, Nat.add_sub_cancel_left, show a.length + p + z.length - a.length = p + z.length by omega, List.append_assoc]
theorem splice_left (a r y : List UInt8) (h : y.length = a.length) : splice (a ++ r) 0 y = y ++ r := by
  unfold splice
  rw [List.take_zero, List.nil_append, Nat.zero_add, h, List.drop_left']
  rfl
theorem wrX_pair (E : List UInt8 → List UInt8) (n s i : Nat) (a r : List UInt8) (ha : a.length = 8) (hi : s % n = i) : wrX E n s (a ++ r) = E (a ++ (r.drop (8 * i)).take 8) := by
  unfold wrX wrI
  rw [hi, List.take_append, List.drop_append, List.drop_eq_nil_of_le (by omega), List.nil_append, ha, List.take_of_length_le (by omega), show 8 * (i + 1) - 8 = 8 * i by omega, Nat.sub_self, List.take_zero, List.append_nil]
theorem wrF_pair (E : List UInt8 → List UInt8) (n s i : Nat) (a r x : List UInt8) (ha : a.length = 8) (hi : s % n = i) (hx : E (a ++ (r.drop (8 * i)).take 8) = x) (hxl : x.length = 16) :
    wrF E n s (a ++ r) = xorL (x.take 8) (bytes64 (UInt64.ofNat (s + 1))) ++ splice r (8 * i) (x.drop 8) := by
  have hy : (xorL (x.take 8) (bytes64 (UInt64.ofNat (s + 1)))).length = 8 := xorL_lenLe _ _ 8 (by rw [List.length_take]; omega) (by rw [bytes64_len]; exact Nat.le_refl _)
  unfold wrF wrY
  rw [wrX_pair E n s i a r ha hi, hx, splice_left a r _ (by rw [hy, ha]), show wrI n s = (xorL (x.take 8) (bytes64 (UInt64.ofNat (s + 1)))).length + 8 * i by unfold wrI; rw [hi, hy]; omega, splice_right]
/-- What stands between two rounds of the document's wrap. -/
structure WrS (E : List UInt8 → List UInt8) (N s g n cr : Nat) (t0 : List UInt8) (w1 wr : World) (Aa : Option Addr) (al rl : List UInt8) : Prop where
  a : Own wr w1.heap.size (.slice Aa 8 8) al
  ao : ∀ ad, Aa = some ad → ad.block ≠ g
  r : Own wr w1.heap.size (.slice (some ⟨g, 0, none⟩) n cr) rl
  st : wrN E N s t0 = al ++ rl
  old : Old w1 wr
theorem rwrap_nokey (A C : Option Addr) (m c n cb : Nat) (w : World) (h : m ≠ 16 ∧ m ≠ 24 ∧ m ≠ 32) :
    Calls Try.prog 27 #[.slice A m c, .slice C n cb] w (RvRes w ([], 98)) := by
  have hc := rnew_no A m c w h
  clear h
  go_enter Try.func27, Try.ntmps27
  go_wp2_with fail
  refine hc.mono ?_
  rintro e w1 ⟨rfl, hw⟩
  subst hw
  go_wp2_with fail
  refine bodyPost_ret (results_tmp2 rfl _ _ _) rfl ?_
  exact RvRes.nil _ _ _ (Old.refl _)
theorem rwrap_nolen (A C : Option Addr) (mk ck n cb : Nat) (k : List UInt8) (w : World) (hk : Rd w A mk ck k) (hko : keyOk k) (hl : ¬ wrapLen n) :
    Calls Try.prog 27 #[.slice A mk ck, .slice C n cb] w (RvRes w ([], 33)) := by
  have hcall := rnew_any A mk ck k w hk hko
  have HH := Lib.hid hcall
  clear hcall hk hko
  by_cases h1 : n < 16
  · have i1 : (n : Int) < 16 := by omega
    have d1 : decide ((n : Int) < 16) = true := decide_eq_true i1
    clear hl
    go_enter Try.func27, Try.ntmps27
    go_wp2_with fail
    refine HH.out.mono ?_
    rintro e w1 ⟨c, kb, R, cq, g1, g2, rfl, _, hB⟩
    have H1 := Lib.hid hB
    clear hB
    go_wp2_with fail
    refine bodyPost_ret (results_tmp2 rfl _ _ _) rfl ?_
    exact RvRes.nil _ _ _ H1.out
  · have i1 : ¬ (n : Int) < 16 := by omega
    have d1 : decide ((n : Int) < 16) = false := decide_eq_false i1
    by_cases h2 : 65528 < n
    · have i2 : (n : Int) > 65528 := by omega
      have d2 : decide ((n : Int) > 65528) = true := decide_eq_true i2
      clear hl h1 h2
      go_enter Try.func27, Try.ntmps27
      go_wp2_with fail
      refine HH.out.mono ?_
      rintro e w1 ⟨c, kb, R, cq, g1, g2, rfl, _, hB⟩
      have H1 := Lib.hid hB
      clear hB
      go_wp2_with fail
      refine bodyPost_ret (results_tmp2 rfl _ _ _) rfl ?_
      exact RvRes.nil _ _ _ H1.out
    · have i2 : ¬ (n : Int) > 65528 := by omega
      have d2 : decide ((n : Int) > 65528) = false := decide_eq_false i2
      have i3 : ¬ (n : Int) % 8 = 0 := by unfold wrapLen at hl; omega
      have d3 : ((n : Int) % 8 != 0) = true := by simpa using i3
      clear hl h1 h2
      go_enter Try.func27, Try.ntmps27
      go_wp2_with fail
      refine HH.out.mono ?_
      rintro e w1 ⟨c, kb, R, cq, g1, g2, rfl, _, hB⟩
      have H1 := Lib.hid hB
      clear hB
      go_wp2_with fail
      refine bodyPost_ret (results_tmp2 rfl _ _ _) rfl ?_
      exact RvRes.nil _ _ _ H1.out
set_option maxHeartbeats 4000000 in
theorem rwrap_any (A C : Option Addr) (mk ck n cb : Nat) (k b : List UInt8) (w : World) (hk : Rd w A mk ck k) (hb : Rd w C n cb b) (hko : keyOk k) (hl : wrapLen n) :
    Calls Try.prog 27 #[.slice A mk ck, .slice C n cb] w (RvRes w (wrapF (encL (rks k) ((rks k).length / 16)) b, 0)) := by
  have hcall := rnew_any A mk ck k w hk hko
  obtain ⟨TG, hTG⟩ : ∃ T, wrapF (encL (rks k) ((rks k).length / 16)) b = T := ⟨_, rfl⟩
  rw [hTG]
  obtain ⟨l1, l2, l3⟩ := hl
  have i1 : ¬ (n : Int) < 16 := by omega
  have d1 : decide ((n : Int) < 16) = false := decide_eq_false i1
  have i2 : ¬ (n : Int) > 65528 := by omega
  have d2 : decide ((n : Int) > 65528) = false := decide_eq_false i2
  have i3 : (n : Int) % 8 = 0 := by omega
  have d3 : ((n : Int) % 8 != 0) = false := by simpa using i3
  obtain ⟨N, hN⟩ : ∃ N, n / 8 = N := ⟨_, rfl⟩
  have hquo : Int.tdiv (n : Int) 8 = (N : Int) := by rw [Int.tdiv_eq_ediv_of_nonneg (by omega)]; omega
  have hquo2 : (n : Int) / 8 = (N : Int) := by omega
  have HH := Lib.hid (And.intro hcall (And.intro hb (And.intro hb.1 (And.intro hTG (And.intro hN (And.intro l1 (And.intro l2 l3)))))))
  clear hcall hk hb hTG hN l1 l2 l3
  go_enter Try.func27, Try.ntmps27
  go_wp2_with fail
  refine HH.out.1.mono ?_
  rintro e w1 ⟨c, kb, R, cap, g1, g2, rfl, hC, hB⟩
  have hR : (rks k).length / 16 = R := by have : (rks k).length = 16 * R := hC.2.2.1; omega
  have hTG := HH.out.2.2.2.1
  rw [hR] at hTG
  have hEl : ∀ l : List UInt8, l.length = 16 → (encL (rks k) R l).length = 16 := fun l hl => enc_ne _ R l hl hC.2.2.1
  have hen := REn.of hC
  obtain ⟨E, hE⟩ : ∃ E, encL (rks k) R = E := ⟨_, rfl⟩
  obtain ⟨D, hD⟩ : ∃ D, decL (rks k) R = D := ⟨_, rfl⟩
  rw [hE, hD] at hen
  rw [hE] at hEl hTG
  obtain ⟨ws, hws⟩ : ∃ ws, w1.alloc (.cells #[.int .u8 166, .int .u8 166, .int .u8 166, .int .u8 166, .int .u8 166, .int .u8 166, .int .u8 166, .int .u8 166] 5) = ws := ⟨_, rfl⟩
  have hsg : Own ws w1.heap.size (.slice (some ⟨w1.heap.size, 0, none⟩) 8 8) sgn := by
    rw [← hws]
    exact Own.of_cells (l := sgn) (c := 8) (cur := sgn.map B) (heap_alloc_new w1 _) (Nat.le_refl _) rfl (by unfold maxLen; omega) (by unfold sgn; simp) rfl
  have hBs : Old w1 ws := by rw [← hws]; exact (Old.refl _).alloc _
  have H1 := Lib.hid (And.intro hen (And.intro hEl (And.intro hB (And.intro hTG (And.intro hsg hBs)))))
  clear hC hen hEl hE hD hR hB hko hTG hsg hBs
  go_upto_region 7 with fail
  clear hws
  go_upto_region 8 with (at_builtin; refine wp_app2 (.const (.slice none 0 0)) (.tmp 34) ws.heap.size (.slice none 0 0) [] (Own.nil _ _) (Nat.le_refl _) C n cb b ((HH.out.2.1.below H1.out.2.2.1).below H1.out.2.2.2.2.2) (by have := HH.out.2.2.1; have := HH.out.2.2.2.2.2.2.1; simp only [List.length_nil]; omega) rfl rfl rfl rfl ?_; intro A2 n2 cr w2 hn2 hG2; have H2 := Lib.hid hG2; clear hG2)
  have ho2 : Own w2 ws.heap.size (.slice A2 n2 cr) b := by have := H2.out.own; rwa [List.nil_append] at this
  have hb0 : b ≠ [] := by intro h; have h1 := HH.out.2.2.1; have h2 := HH.out.2.2.2.2.2.1; rw [h] at h1; simp at h1; omega
  obtain ⟨g, cz, he⟩ := ho2.form (fun h => hb0 (H2.out.nil h))
  cases he
  have hnb : b.length = n := HH.out.2.2.1.symm
  rw [hnb] at ho2 ⊢
  have hgs : ws.heap.size ≤ g := ho2.addr_ge _ rfl
  have hs1 : w1.heap.size < ws.heap.size := (H1.out.2.2.2.2.1.lt rfl).2
  have hN1 : 2 ≤ N := by have := HH.out.2.2.2.2.1; have := HH.out.2.2.2.2.2.1; omega
  have hN2 : N ≤ 8191 := by have := HH.out.2.2.2.2.1; have := HH.out.2.2.2.2.2.2.1; omega
  have hn8 : n = 8 * N := by have := HH.out.2.2.2.2.1; have := HH.out.2.2.2.2.2.2.2; omega
  have hncr : n ≤ cr := ho2.rd.2.1
  have hcm := ho2.rd.2.2.1
  have hst : WrS E N 0 g n cr (sgn ++ b) w1 w2 (some ⟨w1.heap.size, 0, none⟩) sgn b := ⟨H1.out.2.2.2.2.1.below H2.out.below, fun ad e => by cases e; simp; omega, ho2.mono (Nat.le_of_lt hs1), rfl, Old.trans H1.out.2.2.2.2.2 H2.out.below⟩
  have HS := Lib.hid (And.intro hst (And.intro hgs (And.intro hs1 (And.intro hn8 (And.intro hncr hcm)))))
  have hnM : n ≤ 65528 := HH.out.2.2.2.2.2.2.1
  clear hst hgs hs1 hn8 hncr hcm ho2 hb0 hnb hn2 H2
  go_wp2_with fail
  go_loopw [7, 10] (fun va jv wr => ∃ j : Nat, j ≤ 6 ∧ jv = .int .i64 (j : Int) ∧ ∃ (Aa : Option Addr) (al rl : List UInt8), va = .slice Aa 8 8 ∧ WrS E N (N * j) g n cr (sgn ++ b) w1 wr Aa al rl) (fun _ jv _ => 6 - (intOf jv).toNat)
  case atStart => exact ⟨0, by omega, rfl, _, _, _, rfl, by rw [Nat.mul_zero]; exact HS.out.1⟩
  case round =>
    obtain ⟨j, hj6, rfl, Aa, al, rl, rfl, hW⟩ := hrel
    by_cases hlt : j < 6
    · have hq : (j : Int) < 6 := by omega
      have hqd : decide ((j : Int) < 6) = true := decide_eq_true hq
      obtain ⟨M, hM⟩ : ∃ M, N * j = M := ⟨_, rfl⟩
      have hMi : (N : Int) * (j : Int) = (M : Int) := by rw [← hM]; simp
      have hMb : M ≤ 49146 := by rw [← hM]; exact Nat.le_trans (Nat.mul_le_mul hN2 (show j ≤ 6 by omega)) (by decide)
      have hMw : IntKind.i64.wrap (M : Int) = (M : Int) := IntWalk.i64_in _ (by omega)
      obtain ⟨j1, hj1⟩ : ∃ j1, j + 1 = j1 := ⟨_, rfl⟩
      have hj1i : (j : Int) + 1 = (j1 : Int) := by omega
      have hj1w : IntKind.i64.wrap (j1 : Int) = (j1 : Int) := IntWalk.i64_in _ (by omega)
      rw [hM] at hW
      have HW := Lib.hid (And.intro hW (And.intro hM hj1))
      clear hW hM hj1
      go_wp2_with fail
      go_loopw [7, 11] (fun va iv wr => ∃ i : Nat, i ≤ N ∧ iv = .int .i64 (i : Int) ∧ ∃ (Aa : Option Addr) (al rl : List UInt8), va = .slice Aa 8 8 ∧ WrS E N (M + i) g n cr (sgn ++ b) w1 wr Aa al rl) (fun _ iv _ => N - (intOf iv).toNat)
      case atStart => exact ⟨0, by omega, rfl, _, _, _, rfl, HW.out.1⟩
      case round =>
        obtain ⟨i, hiN, rfl, Ab, al2, rl2, rfl, hV⟩ := hrel
        by_cases hlN : i < N
        · have hqi : (i : Int) < (N : Int) := by omega
          have hqid : decide ((i : Int) < (N : Int)) = true := decide_eq_true hqi
          obtain ⟨p, hp⟩ : ∃ p, 8 * i = p := ⟨_, rfl⟩
          have hpi : 8 * (i : Int) = (p : Int) := by omega
          have hpw : IntKind.i64.wrap (p : Int) = (p : Int) := IntWalk.i64_in _ (by omega)
          obtain ⟨p8, hp8⟩ : ∃ p8, p + 8 = p8 := ⟨_, rfl⟩
          have hp8i : (p : Int) + 8 = (p8 : Int) := by omega
          have hp8w : IntKind.i64.wrap (p8 : Int) = (p8 : Int) := IntWalk.i64_in _ (by omega)
          obtain ⟨s, hs⟩ : ∃ s, M + i = s := ⟨_, rfl⟩
          have hsi : (M : Int) + (i : Int) = (s : Int) := by omega
          have hsw : IntKind.i64.wrap (s : Int) = (s : Int) := IntWalk.i64_in _ (by omega)
          obtain ⟨t, ht⟩ : ∃ t, s + 1 = t := ⟨_, rfl⟩
          have hti : (s : Int) + 1 = (t : Int) := by omega
          have htw : IntKind.i64.wrap (t : Int) = (t : Int) := IntWalk.i64_in _ (by omega)
          obtain ⟨iq, hiq⟩ : ∃ iq, i + 1 = iq := ⟨_, rfl⟩
          have hiqi : (i : Int) + 1 = (iq : Int) := by omega
          have hiqw : IntKind.i64.wrap (iq : Int) = (iq : Int) := IntWalk.i64_in _ (by omega)
          have hsm : s % N = i := by rw [← hs, ← HW.out.2.1, Nat.mul_comm N j, Nat.mul_add_mod_of_lt hlN]
          have hp8n : p8 ≤ n := by have := HS.out.2.2.2.1; omega
          rw [hs] at hV
          have htb : t ≤ 100000 := by omega
          have HI := Lib.hid (And.intro hp (And.intro hp8 (And.intro hs (And.intro ht (And.intro hiq (And.intro hsm (And.intro hp8n hlN)))))))
          have HV := Lib.hid hV
          have hal8 : al2.length = 8 := hV.a.len.symm
          have hrl8 : rl2.length = n := hV.r.len.symm
          have hsB := fun W : World => slice_both (some ⟨g, 0, none⟩) n cr p p8 (by omega) (by have := HS.out.2.2.2.2.1; omega) W
          rw [if_neg (by have := HS.out.2.2.2.2.1; omega), show p8 - p = 8 by omega] at hsB
          simp only [Option.map_some, Addr.add_mid, Nat.zero_add] at hsB
          have hrB := hV.r.rd.cut (k := p) (by omega)
          rw [if_neg (by have := HS.out.2.2.2.2.1; omega)] at hrB
          simp only [Option.map_some, Addr.add_mid, Nat.zero_add] at hrB
          have hrB := hrB.front (k := 8) (by omega)
          have HB := Lib.hid (And.intro hsB (And.intro hrB (And.intro hal8 hrl8)))
          clear hsB hrB hp hp8 hs ht hiq hsm hp8n hlN hV hlt hal8 hrl8
          go_upto_region 15 with fail
          refine region_old (by kernel_rfl) (fun wd hHeld hSz => ?_)
          have HSz := Lib.hid hSz
          clear hSz
          have hOd := hHeld
          refine takeL (i := 0) (v := ?_) rfl (by kernel_rfl) (by kernel_rfl) (by kernel_rfl) (fun _ _ _ h => h) (Or.inl ⟨by rfl, ?_⟩) hHeld ?_
          rotate_left
          focus (intro wq hSw; clear hSw; go_simp; try with_reducible rfl)
          try simp only [Act.put, List.setIfInBounds_toArray, List.set_cons_zero, List.set_cons_succ]
          refine takeL (i := 1) (v := ?_) rfl (by kernel_rfl) (by kernel_rfl) (by kernel_rfl) (fun _ _ _ h => h) (Or.inl ⟨by rfl, ?_⟩) hHeld ?_
          rotate_left
          focus (intro wq hSw; clear hSw; go_simp; try with_reducible rfl)
          try simp only [Act.put, List.setIfInBounds_toArray, List.set_cons_zero, List.set_cons_succ]
          refine takeL (i := 3) (v := ?_) rfl (by kernel_rfl) (by kernel_rfl) (by kernel_rfl) (fun _ _ _ h => h) (Or.inl ⟨by rfl, ?_⟩) hHeld ?_
          rotate_left
          focus (intro wq hSw; clear hSw; go_simp; try with_reducible rfl)
          try simp only [Act.put, List.setIfInBounds_toArray, List.set_cons_zero, List.set_cons_succ]
          refine takeL (i := 4) (v := ?_) rfl (by kernel_rfl) (by kernel_rfl) (by kernel_rfl) (fun _ _ _ h => h) (Or.inl ⟨by rfl, ?_⟩) hHeld ?_
          rotate_left
          focus (intro wq hSw; clear hSw; go_simp; try with_reducible rfl)
          try simp only [Act.put, List.setIfInBounds_toArray, List.set_cons_zero, List.set_cons_succ]
          refine takeL (i := 5) (v := ?_) rfl (by kernel_rfl) (by kernel_rfl) (by kernel_rfl) (fun _ _ _ h => h) (Or.inl ⟨by rfl, ?_⟩) hHeld ?_
          rotate_left
          focus (intro wq hSw; clear hSw; go_simp; try with_reducible rfl)
          try simp only [Act.put, List.setIfInBounds_toArray, List.set_cons_zero, List.set_cons_succ]
          refine takeL (i := 6) (v := ?_) rfl (by kernel_rfl) (by kernel_rfl) (by kernel_rfl) (fun _ _ _ h => h) (Or.inl ⟨by rfl, ?_⟩) hHeld ?_
          rotate_left
          focus (intro wq hSw; clear hSw; go_simp; try with_reducible rfl)
          try simp only [Act.put, List.setIfInBounds_toArray, List.set_cons_zero, List.set_cons_succ]
          refine takeL (i := 7) (v := ?_) rfl (by kernel_rfl) (by kernel_rfl) (by kernel_rfl) (fun _ _ _ h => h) (Or.inl ⟨by rfl, ?_⟩) hHeld ?_
          rotate_left
          focus (intro wq hSw; clear hSw; go_simp; try with_reducible rfl)
          try simp only [Act.put, List.setIfInBounds_toArray, List.set_cons_zero, List.set_cons_succ]
          refine takeL (i := 8) (v := ?_) rfl (by kernel_rfl) (by kernel_rfl) (by kernel_rfl) (fun _ _ _ h => h) (Or.inl ⟨by rfl, ?_⟩) hHeld ?_
          rotate_left
          focus (intro wq hSw; clear hSw; go_simp; try with_reducible rfl)
          try simp only [Act.put, List.setIfInBounds_toArray, List.set_cons_zero, List.set_cons_succ]
          refine takeL (i := 9) (v := ?_) rfl (by kernel_rfl) (by kernel_rfl) (by kernel_rfl) (fun _ _ _ h => h) (Or.inl ⟨by rfl, ?_⟩) hHeld ?_
          rotate_left
          focus (intro wq hSw; have hRun := HB.out.1 wq; clear hSw; go_simp; try with_reducible rfl)
          try simp only [Act.put, List.setIfInBounds_toArray, List.set_cons_zero, List.set_cons_succ]
          refine wpAnyH_ready (rs := [2]) (by kernel_rfl) (by simp) ?_
          refine consL rfl (fun K hK => ?_) AllReadyH.nil
          refine step_app2 (.const (.slice none 0 0)) (.tmp 49) wd.heap.size (.slice none 0 0) [] (Own.nil _ _) (Nat.le_refl _) Ab 8 8 al2 (HV.out.a.rd.below hOd) (by rw [HB.out.2.2.1]; simp) rfl rfl rfl rfl (fun A3 n3 c3 w3 hn3 hG3 => ?_)
          have hO3 : Own w3 wd.heap.size (.slice A3 n3 c3) al2 := by have := hG3.own; rwa [List.nil_append] at this
          have hn3e : n3 = 8 := by have h1 := hO3.len; rw [HB.out.2.2.1] at h1; exact h1
          subst hn3e
          have hB3 : Old wd w3 := hG3.below
          clear hn3 hG3
          refine hK.out _ _ (Old.trans hHeld hB3) (fun hHeld => ?_)
          clear hK K
          try simp only [Act.put, List.setIfInBounds_toArray, List.set_cons_zero, List.set_cons_succ]
          refine wpAnyH_ready (rs := [10]) (by kernel_rfl) (by simp) ?_
          refine consL rfl (fun K hK => ?_) AllReadyH.nil
          refine step_app2 (.tmp 50) (.tmp 57) wd.heap.size (.slice A3 8 c3) _ hO3 hB3.size (some ⟨g, p, none⟩) 8 (cr - p) _ ((HB.out.2.1.below hOd).below hB3) (by rw [HB.out.2.2.1, ← HB.out.2.1.1]; omega) rfl rfl rfl rfl (fun A4 n4 c4 w4 hn4 hG4 => ?_)
          have hn4e : n4 = 16 := by have h1 := hG4.len; rw [List.length_append, HB.out.2.2.1, ← HB.out.2.1.1] at h1; exact h1
          subst hn4e
          have hOx4 : Old wr w4 := ((hOd.trans hB3).trans_below (hG4.below.mono hOd.size))
          refine hK.out _ _ hOx4 (fun hHeld => ?_)
          clear hK K
          try simp only [Act.put, List.setIfInBounds_toArray, List.set_cons_zero, List.set_cons_succ]
          refine wpAnyH_ready (rs := [11]) (by kernel_rfl) (by simp) ?_
          refine consL rfl (fun K hK => ?_) AllReadyH.nil
          go_simp
          refine (H1.out.1.1 w4 _ _ _ (Old.trans HV.out.old hOx4) hG4.own.rd).mono ?_
          rintro e wx ⟨sb, rfl, hRx, hBx, hsb⟩
          refine hK.out _ _ (Old.trans hHeld hBx) (fun hHeld => ?_)
          clear hK K
          try simp only [Act.put, List.setIfInBounds_toArray, List.set_cons_zero, List.set_cons_succ]
          refine takeL (i := 12) (v := ?_) rfl (by kernel_rfl) (by kernel_rfl) (by kernel_rfl) (fun _ _ _ h => h) (Or.inl ⟨by rfl, ?_⟩) hHeld ?_
          rotate_left
          focus (intro wq hSw; clear hSw; go_simp; try with_reducible rfl)
          try simp only [Act.put, List.setIfInBounds_toArray, List.set_cons_zero, List.set_cons_succ]
          refine wpAnyH_done (by kernel_rfl) ?_ _
          refine NoPanic.normal ?_
          have hXp := wrX_pair E N s i al2 rl2 HB.out.2.2.1 HI.out.2.2.2.2.2.1
          obtain ⟨x, hx⟩ : ∃ x, E (al2 ++ (rl2.drop p).take 8) = x := ⟨_, rfl⟩
          rw [hx] at hRx
          have hxl : x.length = 16 := hRx.1.symm
          have hOx : Old wr wx := Old.trans hOx4 hBx
          have hgw4 : g < sb := Nat.lt_of_lt_of_le (HV.out.r.lt rfl).2 (Nat.le_trans hOx4.size hsb)
          have hx8 := slice_to (some ⟨sb, 0, none⟩) 16 16 8 (fun ad e => by cases e; rfl) (by omega)
          rw [show ((8 : Nat) : Int) = 8 from rfl] at hx8
          have HX := Lib.hid (And.intro hRx (And.intro hOx (And.intro hx (And.intro hxl hgw4))))
          clear hXp hx hxl hOx hgw4 hRx hOd hHeld hO3 hB3 hG4 hOx4 hBx hsb
          try simp only [Exit.then]
          try go_at_K
          go_upto_region 18 with (first | (go_at_call 56; refine (eight_any t wx (by omega)).mono ?_; rintro e w6 ⟨rfl, hO6, hB6⟩; have H6 := Lib.hid (And.intro hO6 hB6); clear hO6 hB6) | (go_at_call 52; refine (rxorn_any (some ⟨sb, 0, none⟩) (some ⟨wx.heap.size, 0, none⟩) 8 16 8 8 _ _ w6 ((HX.out.1.front (by omega)).below H6.out.2) H6.out.1.rd (Nat.le_refl _) (by omega)).mono ?_; rintro e w7 ⟨rfl, hO7, hB7⟩; have H7 := Lib.hid (And.intro hO7 hB7); clear hO7 hB7))
          have hO17 : Old wr w7 := Old.trans (Old.trans HX.out.2.1 H6.out.2) H7.out.2
          have hO07 : Old w1 w7 := Old.trans HV.out.old hO17
          have hx7 := ((HX.out.1.below H6.out.2).below H7.out.2)
          have hr7 := HV.out.r.below hO17
          have hg7 : g < w6.heap.size := Nat.lt_of_lt_of_le (HV.out.r.lt rfl).2 (Old.trans HX.out.2.1 H6.out.2).size
          have H8 := Lib.hid (And.intro hO07 (And.intro hx7 (And.intro hr7 hg7)))
          clear hO17 hO07 hx7 hr7 hg7 hx8
          go_wp2_with fail
          go_loopw [14] (fun kv wl => ∃ k : Nat, k ≤ 8 ∧ kv = .int .i64 (k : Int) ∧ Own wl w1.heap.size (.slice (some ⟨g, 0, none⟩) n cr) (splice rl2 p ((x.drop 8).take k)) ∧ Turn [g] w7 wl) (fun kv _ => 8 - (intOf kv).toNat)
          case atStart => exact ⟨0, by omega, rfl, by rw [splice_zero]; exact H8.out.2.2.1, Turn.refl _ _⟩
          case round =>
            obtain ⟨k, hk8, rfl, hOk, hTk⟩ := hrel
            by_cases hlk : k < 8
            · have hqk : (k : Int) < 8 := by omega
              have hqkd : decide ((k : Int) < 8) = true := decide_eq_true hqk
              obtain ⟨q, hqe⟩ : ∃ q, 8 + k = q := ⟨_, rfl⟩
              have hqe1 : 8 + (k : Int) = (q : Int) := by omega
              have hqe2 : IntKind.i64.wrap (q : Int) = (q : Int) := IntWalk.i64_in _ (by omega)
              have hq16 : (q : Int) < 16 := by omega
              obtain ⟨pk, hpk⟩ : ∃ pk, p + k = pk := ⟨_, rfl⟩
              have hpk1 : (p : Int) + (k : Int) = (pk : Int) := by omega
              have hpk2 : IntKind.i64.wrap (pk : Int) = (pk : Int) := IntWalk.i64_in _ (by have := HI.out.1; omega)
              have hpkn : (pk : Int) < (n : Int) := by have := HI.out.2.1; have := HI.out.2.2.2.2.2.2.1; omega
              obtain ⟨k1, hk1⟩ : ∃ k1, k + 1 = k1 := ⟨_, rfl⟩
              have hk1i : (k : Int) + 1 = (k1 : Int) := by omega
              have hk1w : IntKind.i64.wrap (k1 : Int) = (k1 : Int) := IntWalk.i64_in _ (by omega)
              obtain ⟨z, hz⟩ : ∃ z, x[q]? = some z := ⟨_, List.getElem?_eq_getElem (by rw [HX.out.2.2.2.1]; omega)⟩
              have hxk : Rd wr (some ⟨sb, 0, none⟩) 16 16 x := H8.out.2.1.turn hTk (fun ad e => by cases e; simp; have := HX.out.2.2.2.2; omega)
              obtain ⟨bb, ob, hbe, hat⟩ := hxk.addr (by decide)
              cases hbe
              have y0 := hat.2 q z hz
              rw [Nat.zero_add] at y0
              have y3 := hOk.frozen pk
              obtain ⟨z0, hz0⟩ : ∃ z0, (splice rl2 p ((x.drop 8).take k))[pk]? = some z0 := ⟨_, List.getElem?_eq_getElem (by rw [← hOk.len]; omega)⟩
              have y2 := hOk.cell pk z0 hz0
              have hO9 := hOk.set_ pk z (by omega)
              have hdz : (x.drop 8)[k]? = some z := by rw [List.getElem?_drop, hqe]; exact hz
              rw [← hpk, splice_step rl2 (x.drop 8) p k z hdz (by rw [List.length_drop, HX.out.2.2.2.1, HB.out.2.2.2]; have := HI.out.2.1; have := HI.out.2.2.2.2.2.2.1; omega), hpk, hk1] at hO9
              have hT9 : Turn [g] w7 (wr.setCell ⟨g, pk, none⟩ (B z)) := hTk.setCell (p := ⟨g, pk, none⟩) (.inl (by simp)) _
              have H9 := Lib.hid (And.intro hO9 (And.intro hT9 hk1))
              clear hOk hTk hlk hqe hpk hk1 hz hxk hat hO9 hT9 hdz hz0
              go_wp2_with fail
              go_roundw
              case rel => exact ⟨k1, by omega, rfl, H9.out.1, H9.out.2.1⟩
              case measure => have := H9.out.2.2; simp [intOf]; omega
            · obtain rfl : k = 8 := by omega
              have hqk : ¬ ((8 : Nat) : Int) < 8 := by omega
              have hxd : (x.drop 8).take 8 = x.drop 8 := List.take_of_length_le (by rw [List.length_drop, HX.out.2.2.2.1]; omega)
              rw [hxd] at hOk
              have hst : WrS E N (M + iq) g n cr (sgn ++ b) w1 wr (some ⟨w6.heap.size, 0, none⟩) (xorL (x.take 8) (bytes64 (UInt64.ofNat t))) (splice rl2 p (x.drop 8)) := by
                refine ⟨(H7.out.1.mono ?_).turn hTk ?_, ?_, hOk, ?_, below_turn H8.out.1 hTk ?_ H8.out.1.size⟩
                · exact (Old.trans HV.out.old (Old.trans HX.out.2.1 H6.out.2)).size
                · intro gg hgg; cases hgg; simp; have := H8.out.2.2.2; omega
                · intro ad e; cases e; simp; have := H8.out.2.2.2; omega
                · rw [← HI.out.2.2.2.2.1, show M + (i + 1) = s + 1 by have := HI.out.2.2.1; omega]
                  show wrF E N s (wrN E N s (sgn ++ b)) = _
                  rw [HV.out.st, wrF_pair E N s i al2 rl2 x HB.out.2.2.1 HI.out.2.2.2.2.2.1 (by rw [HI.out.1]; exact HX.out.2.2.1) HX.out.2.2.2.1, HI.out.1, HI.out.2.2.2.1]
                · intro u hu; cases hu with | head => exact Nat.le_trans (Nat.le_of_lt HS.out.2.2.1) HS.out.2.1 | tail _ h => cases h
              have H9 := Lib.hid hst
              clear hOk hTk hxd hst
              go_wp2_with fail
              go_roundw
              case rel => exact ⟨iq, by have := HI.out.2.2.2.2.1; have := HI.out.2.2.2.2.2.2.2; omega, rfl, _, _, _, rfl, H9.out⟩
              case measure => have := HI.out.2.2.2.2.1; have := HI.out.2.2.2.2.2.2.2; simp [intOf]; omega
        · obtain rfl : i = N := by omega
          have hqi : ¬ (i : Int) < (i : Int) := by omega
          have hqid : decide ((i : Int) < (i : Int)) = false := decide_eq_false hqi
          have HV := Lib.hid hV
          clear hV hlN
          go_wp2_with fail
          go_roundw
          case rel => exact ⟨j1, by have := HW.out.2.2; omega, rfl, _, _, _, rfl, by rw [← HW.out.2.2, Nat.mul_add, HW.out.2.1, Nat.mul_one]; exact HV.out⟩
          case measure => have := HW.out.2.2; simp [intOf]; omega
    · obtain rfl : j = 6 := by omega
      have hq : ¬ ((6 : Nat) : Int) < 6 := by omega
      have hsz := hW.old.size
      have HW := Lib.hid hW
      clear hW hlt
      go_wp2_with (at_builtin; refine wp_app2 (.tmp 86) (.tmp 87) w1.heap.size (.slice Aa 8 8) al HW.out.a hsz (some ⟨g, 0, none⟩) n cr rl HW.out.r.rd (by have h1 := HW.out.a.len; have h2 := HW.out.r.len; omega) rfl rfl rfl rfl ?_; intro A9 n9 c9 w9 hn9 hG9; have H9 := Lib.hid hG9; clear hG9)
      refine bodyPost_ret (results_tmp2 rfl _ _ _) rfl ?_
      refine ⟨_, _, _, rfl, ?_, Old.trans H1.out.2.2.1 (Below.trans HW.out.old H9.out.below)⟩
      have h1 := H1.out.2.2.2.1
      unfold wrapF at h1
      rw [← HH.out.2.2.1, HH.out.2.2.2.2.1, Nat.mul_comm 6 N, HW.out.st] at h1
      rw [← h1]
      exact H9.out.own.rd
end Go.Proofs.Ytiocmebcbhbcmaa
