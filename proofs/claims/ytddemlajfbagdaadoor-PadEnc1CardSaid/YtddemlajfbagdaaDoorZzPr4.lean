/-
  Pad, the document: xor.
  Pad, the document: why there is no encoding by PSS.
  Pad, the document: the first padding of signatures.
  Pad, the document: OAEP is made. (begun)
-/
import Derived.Test.YtddemlajfbagdaaDoorPd9
import Derived.StillTailTactics
import Derived.Test.YtddemlajfbagdaaDoorRh2
namespace Go.Proofs.YtddemlajfbagdaaDoor
set_option maxRecDepth 100000
open Go.RowKit

def mid (k : Nat) (o l : List UInt8) : List UInt8 := o.take k ++ l.drop k
theorem mid_zero (o l : List UInt8) : mid 0 o l = l := by simp [mid]
theorem mid_all (o l : List UInt8) (n : Nat) (ho : o.length = n) (hl : l.length = n) : mid n o l = o := by
  unfold mid
  rw [List.take_of_length_le (by omega), List.drop_eq_nil_of_le (by omega), List.append_nil]
theorem mid_at (k : Nat) (o l : List UInt8) (h : k ≤ o.length) (j : Nat) (hj : k ≤ j) : (mid k o l)[j]? = l[j]? := by
  unfold mid
  rw [List.getElem?_append_right (by rw [List.length_take]; omega), List.getElem?_drop, List.length_take, Nat.min_eq_left h]
  congr 1; omega
theorem mid_set (k : Nat) (o l : List UInt8) (x : UInt8) (hx : o[k]? = some x) (hl : k < l.length) : (mid k o l).set k x = mid (k + 1) o l := by
  have hk := (List.getElem?_eq_some_iff.1 hx).1
  unfold mid
  rw [List.set_append_right _ _ (by rw [List.length_take]; omega), List.length_take, Nat.min_eq_left (by omega), Nat.sub_self, List.take_add_one, hx]
  rw [List.drop_eq_getElem_cons hl, List.set_cons_zero, List.append_assoc]
  rfl
theorem xorB_at (l k : List UInt8) (i : Nat) (x y : UInt8) (hx : l[i]? = some x) (hy : k[i]? = some y) : (xorB l k)[i]? = some (x ^^^ y) := by unfold xorB; rw [List.getElem?_zipWith, hx, hy]
theorem rxor8_any (A C : Option Addr) (n ca m cb : Nat) (a b : List UInt8) (w : World) (ha : Rd w A n ca a) (hb : Rd w C m cb b) (hnm : n ≤ m) (hn : n ≤ 100000) :
    Calls Tryd.prog 37 #[.slice A n ca, .slice C m cb] w fun e w' => e = .returned (.slice (some ⟨w.heap.size, 0, none⟩) n n) ∧ Own w' w.heap.size (.slice (some ⟨w.heap.size, 0, none⟩) n n) (xorB a b) ∧ Below w.heap.size w w' := by
  have hal : a.length = n := ha.1.symm
  have hbl : b.length = m := hb.1.symm
  have hca := ha.2.1
  have hcb := hb.2.1
  obtain ⟨X, hX⟩ : ∃ X, w.heap.size = X := ⟨_, rfl⟩
  have hmk := Tryd.prog_make n (by omega) w
  obtain ⟨w1, hw1⟩ : ∃ w1, w.alloc (.cells (madeCells #[.int .u8 0] n) 5) = w1 := ⟨_, rfl⟩
  have hO1 : Own w1 X (.slice (some ⟨X, 0, none⟩) n n) (zs n) := by rw [← hw1, ← hX]; exact Own.made w n (by unfold maxLen; omega)
  have hB1 : Below X w w1 := by rw [← hw1, ← hX]; exact (Below.refl _ _).alloc (Nat.le_refl _) _
  rw [hw1, hX] at hmk
  have HH := Lib.hid (And.intro ha (And.intro hb (And.intro hal (And.intro hbl (And.intro hO1 hB1)))))
  clear ha hb hal hbl hO1 hB1 hw1
  rw [hX]
  go_enter Tryd.func37, Tryd.ntmps37
  go_wp2_with fail
  clear hmk
  go_loopw [6] (fun iv wr => ∃ i : Nat, i ≤ n ∧ iv = .int .i64 (i : Int) ∧ Own wr X (.slice (some ⟨X, 0, none⟩) n n) (mid i (xorB a b) (zs n)) ∧ Below X w wr) (fun iv _ => n - (intOf iv).toNat)
  case atStart => exact ⟨0, by omega, rfl, by rw [mid_zero]; exact HH.out.2.2.2.2.1, HH.out.2.2.2.2.2⟩
  case round =>
    obtain ⟨i, hi, rfl, hO, hB⟩ := hrel
    by_cases hlt : i < n
    · have hq : (i : Int) < n := by omega
      have hqm : (i : Int) < m := by omega
      obtain ⟨ba, oa, rfl, haa⟩ := HH.out.1.addr (by omega)
      obtain ⟨bb, ob, rfl, hbb⟩ := HH.out.2.1.addr (by omega)
      have hbaX : ba < X := by rw [← hX]; exact haa.1
      have hbbX : bb < X := by rw [← hX]; exact hbb.1
      obtain ⟨x, hx⟩ : ∃ x, a[i]? = some x := ⟨_, List.getElem?_eq_getElem (by rw [HH.out.2.2.1]; exact hlt)⟩
      obtain ⟨y, hy⟩ : ∃ y, b[i]? = some y := ⟨_, List.getElem?_eq_getElem (by rw [HH.out.2.2.2.1]; omega)⟩
      have hxy := xorB_at a b i x y hx hy
      have y0 : wr.cell? ⟨ba, oa + i, none⟩ = some (B x) := by rw [hB.cell (p := ⟨ba, oa + i, none⟩) hbaX]; exact haa.2 i x hx
      have y1 : wr.cell? ⟨bb, ob + i, none⟩ = some (B y) := by rw [hB.cell (p := ⟨bb, ob + i, none⟩) hbbX]; exact hbb.2 i y hy
      obtain ⟨z, hz⟩ : ∃ z, (mid i (xorB a b) (zs n))[i]? = some z := ⟨_, List.getElem?_eq_getElem (by rw [← hO.len]; exact hlt)⟩
      have y2 := hO.cell i z hz
      have y3 := hO.frozen i
      have hqa : (i : Int) < ca := by omega
      have HS := Lib.hid (And.intro hO (And.intro hB hxy))
      clear hO hB hxy hx hy hz haa hbb
      go_wp2_with fail
      go_still_tail 12, (by kernel_rfl)
      go_wp2_with fail
      have h1 := HS.out.1.set_ i (x ^^^ y) hlt
      rw [mid_set _ _ _ _ HS.out.2.2 (by rw [zs_len]; exact hlt)] at h1
      have hT : Turn [X] wr (wr.setCell ⟨X, i, none⟩ (B (x ^^^ y))).drew := ((Turn.refl _ _).setCell (p := ⟨X, i, none⟩) (.inl (by simp)) _).drew
      go_roundw
      case rel => exact ⟨i + 1, by omega, by go_num, h1, below_turn HS.out.2.1 hT (by simp) (by rw [← hX]; have := HS.out.2.1.size; omega)⟩
      case measure => simp [intOf]; omega
    · obtain rfl : i = n := by omega
      have hq : ¬ ((i : Int) < i) := by omega
      rw [mid_all _ _ i ((by rw [xorB_len _ _ (by rw [HH.out.2.2.1, HH.out.2.2.2.1]; exact hnm)]; exact HH.out.2.2.1)) (zs_len i)] at hO
      have HS := Lib.hid (And.intro hO hB)
      clear hO hB hi hlt
      go_wp2_with fail
      go_ret
      exact ⟨rfl, HS.out.1, HS.out.2⟩
end Go.Proofs.YtddemlajfbagdaaDoor
namespace Go.Proofs.YtddemlajfbagdaaDoor
set_option maxRecDepth 100000
open Go.RowKit

set_option maxHeartbeats 4000000 in
theorem rpss_any (kind bits : Int) (A : Option Addr) (m c : Nat) (salt : Nat) (w : World) :
    Calls Tryd.prog 44 #[.int .i64 kind, .int .i64 bits, .slice A m c, .int .i64 (salt : Int)] w fun e w' => e = .returned (.int .i64 (pssF kind bits m salt).2) ∧ w = w' := by
  obtain ⟨h, hh⟩ : ∃ h, hsize kind = h := ⟨_, rfl⟩
  have hsz := rsize_any kind w
  have h64 := hsize_64 kind
  unfold pssF
  rw [hh] at hsz h64 ⊢
  have HS := Lib.hid hsz
  clear hsz
  by_cases c1 : h = 0
  · rw [if_pos (.inl c1)]
    subst c1
    clear h64 hh
    go_enter Tryd.func44, Tryd.ntmps44
    go_wp2_with fail
    refine HS.out.mono ?_
    rintro e w' ⟨rfl, rfl⟩
    go_wp2_with fail
    go_ret
    exact ⟨rfl, rfl⟩
  · have b1 : (h == 0) = false := by simpa using c1
    by_cases c2 : (m : Int) = h
    · have b2 : ((m : Int) != h) = false := by simpa using c2
      by_cases c3 : bits < 1
      · rw [if_pos (.inr (.inr (.inl c3)))]
        have b3 : decide (bits < 1) = true := decide_eq_true c3
        clear h64 hh
        go_enter Tryd.func44, Tryd.ntmps44
        go_wp2_with fail
        refine HS.out.mono ?_
        rintro e w' ⟨rfl, rfl⟩
        go_wp2_with fail
        go_ret
        exact ⟨rfl, rfl⟩
      · have b3 : decide (bits < 1) = false := decide_eq_false c3
        by_cases c4 : 65536 < bits
        · rw [if_pos (.inr (.inr (.inr c4)))]
          have c4i : bits > 65536 := c4
          have b4 : decide (bits > 65536) = true := decide_eq_true c4i
          clear h64 hh
          go_enter Tryd.func44, Tryd.ntmps44
          go_wp2_with fail
          refine HS.out.mono ?_
          rintro e w' ⟨rfl, rfl⟩
          go_wp2_with fail
          go_ret
          exact ⟨rfl, rfl⟩
        · rw [if_neg (fun h => h.elim c1 (fun h => h.elim (fun h => h c2) (fun h => h.elim c3 c4)))]
          have c4i : ¬ bits > 65536 := c4
          have b4 : decide (bits > 65536) = false := decide_eq_false c4i
          obtain ⟨b7, hb7⟩ : ∃ x, bits + 7 = x := ⟨_, rfl⟩
          have hb7w : IntKind.i64.wrap b7 = b7 := IntWalk.i64_in _ (by omega)
          obtain ⟨n, hn⟩ : ∃ n, b7 / 8 = n := ⟨_, rfl⟩
          have hnt : Int.tdiv b7 8 = n := by rw [Int.tdiv_eq_ediv_of_nonneg (by omega)]; exact hn
          have hnw : IntKind.i64.wrap n = n := IntWalk.i64_in _ (by omega)
          obtain ⟨q, hq⟩ : ∃ q, h + 2 = q := ⟨_, rfl⟩
          have hqw : IntKind.i64.wrap q = q := IntWalk.i64_in _ (by omega)
          rw [hb7, hn]
          by_cases c5 : n < q
          · rw [if_pos (by omega)]
            have b5 : decide (n < q) = true := decide_eq_true c5
            clear h64 hh
            go_enter Tryd.func44, Tryd.ntmps44
            go_wp2_with fail
            refine HS.out.mono ?_
            rintro e w' ⟨rfl, rfl⟩
            go_wp2_with fail
            go_ret
            exact ⟨rfl, rfl⟩
          · have b5 : decide (n < q) = false := decide_eq_false c5
            obtain ⟨a1, ha1⟩ : ∃ a, n - h = a := ⟨_, rfl⟩
            have ha1w : IntKind.i64.wrap a1 = a1 := IntWalk.i64_in _ (by omega)
            obtain ⟨a2, ha2⟩ : ∃ a, a1 - 2 = a := ⟨_, rfl⟩
            have ha2w : IntKind.i64.wrap a2 = a2 := IntWalk.i64_in _ (by omega)
            by_cases c6 : a2 < (salt : Int)
            · rw [if_pos (by omega)]
              have c6i : (salt : Int) > a2 := c6
              have b6 : decide ((salt : Int) > a2) = true := decide_eq_true c6
              clear h64 hh
              go_enter Tryd.func44, Tryd.ntmps44
              go_wp2_with fail
              refine HS.out.mono ?_
              rintro e w' ⟨rfl, rfl⟩
              go_wp2_with fail
              go_ret
              exact ⟨rfl, rfl⟩
            · rw [if_neg (by omega)]
              have c6i : ¬ (salt : Int) > a2 := c6
              have b6 : decide ((salt : Int) > a2) = false := decide_eq_false c6
              clear h64 hh
              go_enter Tryd.func44, Tryd.ntmps44
              go_wp2_with fail
              refine HS.out.mono ?_
              rintro e w' ⟨rfl, rfl⟩
              go_wp2_with fail
              go_ret
              exact ⟨rfl, rfl⟩
    · rw [if_pos (.inr (.inl c2))]
      have b2 : ((m : Int) != h) = true := by simpa using c2
      clear h64 hh
      go_enter Tryd.func44, Tryd.ntmps44
      go_wp2_with fail
      refine HS.out.mono ?_
      rintro e w' ⟨rfl, rfl⟩
      go_wp2_with fail
      go_ret
      exact ⟨rfl, rfl⟩
end Go.Proofs.YtddemlajfbagdaaDoor
namespace Go.Proofs.YtddemlajfbagdaaDoor
set_option maxRecDepth 100000
open Go.RowKit

set_option maxHeartbeats 4000000 in
theorem rsign1_any (n : Int) (A : Option Addr) (m c : Nat) (t : List UInt8) (w : World) (ht : Rd w A m c t) (hn : n ≤ 200 ∨ 65536 < n) (hn0 : -9223372036854775808 ≤ n) (hm : m ≤ 100000) :
    Calls Tryd.prog 15 #[.int .i64 n, .slice A m c] w (PRes w (sign1F n t)) := by
  have hml := ht.1
  unfold sign1F
  rw [← hml]
  by_cases h1 : 65536 < n
  · rw [if_pos h1]
    have h1d : decide (n > 65536) = true := decide_eq_true h1
    have h1i : n > 65536 := h1
    clear ht hml
    go_enter Tryd.func15, Tryd.ntmps15
    go_wp2_with fail
    refine bodyPost_ret (results_tmp2 rfl _ _ _) rfl ?_
    exact ⟨none, 0, 0, rfl, Rd.nil _, Old.refl _⟩
  · rw [if_neg h1]
    have h1i : ¬ n > 65536 := h1
    have h1d : decide (n > 65536) = false := decide_eq_false h1i
    by_cases h2 : n < 11
    · rw [if_pos (.inl h2)]
      have h2d : decide (n < 11) = true := decide_eq_true h2
      clear ht hml
      go_enter Tryd.func15, Tryd.ntmps15
      go_wp2_with fail
      refine bodyPost_ret (results_tmp2 rfl _ _ _) rfl ?_
      exact ⟨none, 0, 0, rfl, Rd.nil _, Old.refl _⟩
    · have h2d : decide (n < 11) = false := decide_eq_false h2
      obtain ⟨q, hq⟩ : ∃ q, n - 11 = q := ⟨_, rfl⟩
      have hqw : IntKind.i64.wrap q = q := IntWalk.i64_in _ (by omega)
      by_cases h3 : q < (m : Int)
      · rw [if_pos (.inr (by rw [hq]; exact h3))]
        have h3i : (m : Int) > q := h3
        have h3d : decide ((m : Int) > q) = true := decide_eq_true h3i
        clear ht hml
        go_enter Tryd.func15, Tryd.ntmps15
        go_wp2_with fail
        refine bodyPost_ret (results_tmp2 rfl _ _ _) rfl ?_
        exact ⟨none, 0, 0, rfl, Rd.nil _, Old.refl _⟩
      · rw [if_neg (fun h => h.elim h2 (fun h => h3 (by rw [← hq]; exact h)))]
        have h3i : ¬ (m : Int) > q := h3
        have h3d : decide ((m : Int) > q) = false := decide_eq_false h3i
        obtain ⟨N, rfl⟩ := Int.eq_ofNat_of_zero_le (show 0 ≤ n by omega)
        rw [Int.toNat_natCast]
        obtain ⟨a1, ha1⟩ : ∃ x, (N : Int) - 1 = x := ⟨_, rfl⟩
        have ha1w : IntKind.i64.wrap a1 = a1 := IntWalk.i64_in _ (by omega)
        obtain ⟨lI, hlI⟩ : ∃ x, a1 - (m : Int) = x := ⟨_, rfl⟩
        have hlIw : IntKind.i64.wrap lI = lI := IntWalk.i64_in _ (by omega)
        obtain ⟨L, hL⟩ : ∃ x, N - 3 - m = x := ⟨_, rfl⟩
        rw [hL]
        obtain ⟨w1, hw1⟩ : ∃ w1, w.alloc (.cells #[.int .u8 0, .int .u8 1] 5) = w1 := ⟨_, rfl⟩
        have ho1 : Own w1 w.heap.size (.slice (some ⟨w.heap.size, 0, none⟩) 2 2) [0, 1] := by rw [← hw1]; exact own_new w [0, 1] _ 2 rfl rfl (by decide)
        have hb1 : Old w w1 := by rw [← hw1]; exact (Old.refl w).alloc _
        have HH := Lib.hid (And.intro ht (And.intro ho1 (And.intro hb1 (And.intro (show lI = (L : Int) + 2 by omega) (And.intro hml (show L ≤ 200 ∧ m ≤ 200 by omega))))))
        clear ht hml hn hn0 h2 h3 ho1 hb1 hL
        go_enter Tryd.func15, Tryd.ntmps15
        go_wp2_with fail
        go_loopw [6] (fun v wr => ∃ (A' : Option Addr) (n' c' k : Nat), v = .slice A' n' c' ∧ Own wr w.heap.size (.slice A' n' c') ([0, 1] ++ List.replicate k 255) ∧ n' = k + 2 ∧ k ≤ L ∧ Old w wr) (fun v _ => match v with | .slice _ n _ => L + 2 - n | _ => 0)
        case atStart => exact ⟨_, 2, 2, 0, rfl, by simpa using HH.out.2.1, rfl, Nat.zero_le _, HH.out.2.2.1⟩
        case round =>
          obtain ⟨A', n', c', k, rfl, hO, hn', hk, hW⟩ := hrel
          by_cases hlt : k < L
          · have hd : decide ((n' : Int) < lI) = true := decide_eq_true (by rw [HH.out.2.2.2.1]; omega)
            have hdi : (n' : Int) < lI := by rw [HH.out.2.2.2.1]; omega
            have HS := Lib.hid (And.intro hO (And.intro hW (And.intro hlt hn')))
            clear hO hW hlt hn' hk
            go_wp2_with (at_builtin; refine wp_app_lit (.tmp 27) (.tmp 28) w.heap.size _ _ HS.out.1 HS.out.2.1.size [255] (by have := HH.out.2.2.2.2.2; have := HS.out.2.2.1; simp; omega) (by simp) rfl rfl rfl rfl rfl rfl ?_; intro A5 n5 c5 w5 hn5 hG5; have H5 := Lib.hid (And.intro hG5.own (And.intro (show Old w w5 from Below.trans (HS.out.2.1.alloc _) hG5.below) hG5.len)); clear hG5)
            go_roundw
            case rel => exact ⟨A5, n5, c5, k + 1, rfl, by have := H5.out.1; rwa [List.append_assoc, ← List.replicate_succ'] at this, by rw [H5.out.2.2]; simp, HS.out.2.2.1, H5.out.2.1⟩
            case measure => have h5 := H5.out.2.2; have h6 := HS.out.2.2; simp at h5 ⊢; omega
          · obtain rfl : k = L := by omega
            have hd : decide ((n' : Int) < lI) = false := decide_eq_false (by rw [HH.out.2.2.2.1]; omega)
            have hdi : ¬ (n' : Int) < lI := by rw [HH.out.2.2.2.1]; omega
            have HS := Lib.hid (And.intro hO (And.intro hW hn'))
            clear hO hW hlt hn' hk
            go_wp2_with (first | (at_builtin; refine wp_app_lit (.tmp 30) (.tmp 31) w.heap.size _ _ HS.out.1 HS.out.2.1.size [0] (by have := HH.out.2.2.2.2.2; simp; omega) (by simp) rfl rfl rfl rfl rfl rfl ?_; intro A5 n5 c5 w5 hn5 hG5; have H5 := Lib.hid (And.intro hG5.own (show Old w w5 from Below.trans (HS.out.2.1.alloc _) hG5.below)); clear hG5) | (at_builtin; refine wp_app2 (.tmp 33) (.tmp 34) w.heap.size (.slice A5 n5 c5) _ H5.out.1 H5.out.2.size A m c t (HH.out.1.below H5.out.2) (by have h1 := HH.out.2.2.2.2; simp; omega) rfl rfl rfl rfl ?_; intro A6 n6 c6 w6 hn6 hG6; have H6 := Lib.hid hG6; clear hG6))
            refine bodyPost_ret (results_tmp2 rfl _ _ _) rfl ?_
            exact ⟨_, _, _, rfl, by have := H6.out.own.rd; simpa using this, Below.trans H5.out.2 H6.out.below⟩
end Go.Proofs.YtddemlajfbagdaaDoor
namespace Go.Proofs.YtddemlajfbagdaaDoor
set_option maxRecDepth 100000
open Go.RowKit

set_option maxHeartbeats 8000000 in
theorem renco_any (kind n : Int) (A1 A2 A3 : Option Addr) (m1 c1 m2 c2 m3 c3 : Nat) (label seed ms : List UInt8) (w : World) (h1 : Rd w A1 m1 c1 label) (h2 : Rd w A2 m2 c2 seed) (h3 : Rd w A3 m3 c3 ms) (hK : KAt w) (hn : n ≤ 200 ∨ 65536 < n) (hn0 : -9223372036854775808 ≤ n) (hm1 : m1 ≤ 1000) (hm2 : m2 ≤ 1000) (hm3 : m3 ≤ 1000) :
    Calls Tryd.prog 17 #[.int .i64 kind, .int .i64 n, .slice A1 m1 c1, .slice A2 m2 c2, .slice A3 m3 c3] w (PRes w (encOF kind n label seed ms)) := by
  obtain ⟨h, hh⟩ : ∃ h, hsize kind = h := ⟨_, rfl⟩
  have hsz := rsize_any kind w
  have h64 := hsize_64 kind
  have hin := hsize_in kind
  have hl1 := h1.1
  have hl2 := h2.1
  have hl3 := h3.1
  unfold encOF
  rw [← hl2, ← hl3]
  rw [hh] at hsz h64 hin ⊢
  have HS := Lib.hid hsz
  clear hsz
  by_cases d1 : h = 0
  · rw [if_pos (.inl d1)]
    subst d1
    clear h64 hh hin h1 h2 h3 hl1 hl2 hl3 hK
    go_enter Tryd.func17, Tryd.ntmps17
    go_wp2_with fail
    refine HS.out.mono ?_
    rintro e w' ⟨rfl, rfl⟩
    go_wp2_with fail
    refine bodyPost_ret (results_tmp2 rfl _ _ _) rfl ?_
    exact ⟨none, 0, 0, rfl, Rd.nil _, Old.refl _⟩
  · have b1 : (h == 0) = false := by simpa using d1
    by_cases d2 : 65536 < n
    · rw [if_pos (.inr (.inl d2))]
      have c2i : n > 65536 := d2
      have b2 : decide (n > 65536) = true := decide_eq_true d2
      clear h64 hh hin h1 h2 h3 hl1 hl2 hl3 hK
      go_enter Tryd.func17, Tryd.ntmps17
      go_wp2_with fail
      refine HS.out.mono ?_
      rintro e w' ⟨rfl, rfl⟩
      go_wp2_with fail
      refine bodyPost_ret (results_tmp2 rfl _ _ _) rfl ?_
      exact ⟨none, 0, 0, rfl, Rd.nil _, Old.refl _⟩
    · have c2i : ¬ n > 65536 := d2
      have b2 : decide (n > 65536) = false := decide_eq_false d2
      by_cases d3 : (m2 : Int) = h
      · rw [if_neg (fun hx => hx.elim d1 (fun hx => hx.elim d2 (fun hx => hx d3)))]
        subst d3
        obtain ⟨q, hq⟩ : ∃ q, 2 * (m2 : Int) = q := ⟨_, rfl⟩
        have hqw : IntKind.i64.wrap q = q := IntWalk.i64_in _ (by omega)
        obtain ⟨q2, hq2⟩ : ∃ q2, q + 2 = q2 := ⟨_, rfl⟩
        have hq2w : IntKind.i64.wrap q2 = q2 := IntWalk.i64_in _ (by omega)
        rw [hq, hq2]
        by_cases d4 : n < q2
        · rw [if_pos (.inl d4)]
          have b4 : decide (n < q2) = true := decide_eq_true d4
          clear h64 hh hin h1 h2 h3 hl1 hl2 hl3 hK
          go_enter Tryd.func17, Tryd.ntmps17
          go_wp2_with fail
          refine HS.out.mono ?_
          rintro e w' ⟨rfl, rfl⟩
          go_wp2_with fail
          refine bodyPost_ret (results_tmp2 rfl _ _ _) rfl ?_
          exact ⟨none, 0, 0, rfl, Rd.nil _, Old.refl _⟩
        · have b4 : decide (n < q2) = false := decide_eq_false d4
          obtain ⟨r, hr⟩ : ∃ r, n - q = r := ⟨_, rfl⟩
          have hrw : IntKind.i64.wrap r = r := IntWalk.i64_in _ (by omega)
          obtain ⟨r2, hr2⟩ : ∃ r2, r - 2 = r2 := ⟨_, rfl⟩
          have hr2w : IntKind.i64.wrap r2 = r2 := IntWalk.i64_in _ (by omega)
          rw [hr, hr2]
          by_cases d5 : r2 < (m3 : Int)
          · rw [if_pos (.inr d5)]
            have c5i : (m3 : Int) > r2 := d5
            have b5 : decide ((m3 : Int) > r2) = true := decide_eq_true d5
            clear h64 hh hin h1 h2 h3 hl1 hl2 hl3 hK
            go_enter Tryd.func17, Tryd.ntmps17
            go_wp2_with fail
            refine HS.out.mono ?_
            rintro e w' ⟨rfl, rfl⟩
            go_wp2_with fail
            refine bodyPost_ret (results_tmp2 rfl _ _ _) rfl ?_
            exact ⟨none, 0, 0, rfl, Rd.nil _, Old.refl _⟩
          · rw [if_neg (fun hx => hx.elim d4 d5)]
            have c5i : ¬ (m3 : Int) > r2 := d5
            have b5 : decide ((m3 : Int) > r2) = false := decide_eq_false d5
            obtain ⟨k, hk⟩ := Int.eq_ofNat_of_zero_le (show 0 ≤ r2 - (m3 : Int) by omega)
            have hkw : IntKind.i64.wrap (k : Int) = (k : Int) := IntWalk.i64_in _ (by omega)
            obtain ⟨T, hT⟩ : ∃ T, encO (Int.toNat (m2 : Int)) (rof kind) (mask kind) n.toNat label seed ms = T := ⟨_, rfl⟩
            rw [hT]
            have hki := hin d1
            have hrl := rof_len kind hki label (by omega)
            rw [hh, Int.toNat_natCast] at hrl
            rw [Int.toNat_natCast] at hT
            have hm21 : 1 ≤ m2 := by omega
            have hkN : k = n.toNat - 2 * m2 - 2 - ms.length := by omega
            obtain ⟨L, hL⟩ : ∃ L, rof kind label = L := ⟨_, rfl⟩
            have hT' : 0 :: (xorB seed (mask kind (xorB (((L ++ zs k) ++ [1]) ++ ms) (mask kind seed (((L ++ zs k) ++ [1]) ++ ms).length)) m2) ++ xorB (((L ++ zs k) ++ [1]) ++ ms) (mask kind seed (((L ++ zs k) ++ [1]) ++ ms).length)) = T := by
              rw [← hT]
              have hdb : oaepDb m2 (rof kind) n.toNat label ms = ((L ++ zs k) ++ [1]) ++ ms := by
                unfold oaepDb zs; rw [hL, hkN]; simp
              unfold encO
              rw [hdb]
            rw [hL] at hrl
            have hdl : (((L ++ zs k) ++ [1]) ++ ms).length = m2 + k + 1 + m3 := by simp only [List.length_append, zs_len, List.length_singleton]; omega
            have hall : m2 + k + 1 + m3 ≤ 200 := by omega
            have hof := rof_res_all kind A1 m1 c1 label w h1 (by omega)
            rw [hL] at hof
            obtain ⟨t1, ht1⟩ : ∃ x, n - (m2 : Int) = x := ⟨_, rfl⟩
            have ht1w : IntKind.i64.wrap t1 = t1 := IntWalk.i64_in _ (by omega)
            obtain ⟨t2, ht2⟩ : ∃ x, t1 - 1 = x := ⟨_, rfl⟩
            have ht2w : IntKind.i64.wrap t2 = t2 := IntWalk.i64_in _ (by omega)
            obtain ⟨t3, ht3⟩ : ∃ x, t2 - (m3 : Int) = x := ⟨_, rfl⟩
            have ht3w : IntKind.i64.wrap t3 = t3 := IntWalk.i64_in _ (by omega)
            obtain ⟨lI, hlI⟩ : ∃ x, t3 - 1 = x := ⟨_, rfl⟩
            have hlIw : IntKind.i64.wrap lI = lI := IntWalk.i64_in _ (by omega)
            have HH := Lib.hid (And.intro hof (And.intro (show lI = (m2 : Int) + k by omega) (And.intro h2 (And.intro h3 (And.intro hK (And.intro hT' (And.intro hki (And.intro hdl (And.intro hall (And.intro hm21 (And.intro hrl (And.intro hl2 hl3))))))))))))
            clear hof h1 h2 h3 hK hT hT' hki hrl hdl hall hl1 hl2 hl3 hm1 hm2 hm3 hh hin h64 hm21 hkN hL hn hn0
            go_enter Tryd.func17, Tryd.ntmps17
            go_wp2_with fail
            refine HS.out.mono ?_
            rintro e w' ⟨rfl, rfl⟩
            go_wp2_with fail
            refine HH.out.1.mono ?_
            rintro e w2 ⟨A4, n4, c4, rfl, hR2, hB2⟩
            have H2 := Lib.hid (And.intro hR2 (show Old w w2 from hB2))
            clear hR2 hB2
            go_wp2_with fail
            go_loopw [13] (fun v wr => ∃ (A' : Option Addr) (n' c' j : Nat), v = .slice A' n' c' ∧ Own wr w.heap.size (.slice A' n' c') (L ++ zs j) ∧ n' = m2 + j ∧ j ≤ k ∧ Old w wr) (fun v _ => match v with | .slice _ n _ => m2 + k - n | _ => 0)
            case atStart => exact ⟨_, _, _, 0, rfl, by simpa [zs] using H2.out.1, by rw [H2.out.1.len]; exact HH.out.2.2.2.2.2.2.2.2.2.2.1, Nat.zero_le _, H2.out.2⟩
            case round =>
              obtain ⟨A', n', c', j, rfl, hO, hn', hj, hW⟩ := hrel
              have hx1 := HH.out.2.2.2.2.2.2.2.2.1
              have hx2 := HH.out.2.2.2.2.2.2.2.2.2.2.1
              by_cases hlt : j < k
              · have hd : decide ((n' : Int) < lI) = true := decide_eq_true (by rw [HH.out.2.1]; omega)
                have hdi : (n' : Int) < lI := by rw [HH.out.2.1]; omega
                have HG := Lib.hid (And.intro hO (And.intro hW (And.intro hlt (And.intro hn' (And.intro hx1 hx2)))))
                clear hO hW hlt hn' hj hx1 hx2
                go_wp2_with (at_builtin; refine wp_app_lit (.tmp 59) (.tmp 60) w.heap.size _ _ HG.out.1 HG.out.2.1.size [0] (by have := HG.out.2.2; simp [zs_len]; omega) (by simp) rfl rfl rfl rfl rfl rfl ?_; intro A5 n5 c5 w5 hn5 hG5; have H5 := Lib.hid (And.intro hG5.own (And.intro (show Old w w5 from Below.trans (HG.out.2.1.alloc _) hG5.below) hG5.len)); clear hG5)
                go_roundw
                case rel => exact ⟨A5, n5, c5, j + 1, rfl, by have := H5.out.1; rw [List.append_assoc] at this; unfold zs at this ⊢; rwa [← List.replicate_succ'] at this, by rw [H5.out.2.2]; simp only [List.length_append, zs_len, List.length_singleton]; have := HG.out.2.2; omega, HG.out.2.2.1, H5.out.2.1⟩
                case measure => have h5 := H5.out.2.2; have h6 := HG.out.2.2; simp only [List.length_append, zs_len, List.length_singleton] at h5; simp; omega
              · obtain rfl : j = k := by omega
                have hd : decide ((n' : Int) < lI) = false := decide_eq_false (by rw [HH.out.2.1]; omega)
                have hdi : ¬ (n' : Int) < lI := by rw [HH.out.2.1]; omega
                have HG := Lib.hid (And.intro hO (And.intro hW (And.intro hn' (And.intro hx1 hx2))))
                clear hO hW hlt hn' hj hx1 hx2
                go_wp2_with (first | (at_builtin; refine wp_app_lit (.tmp 62) (.tmp 63) w.heap.size _ _ HG.out.1 HG.out.2.1.size [1] (by have := HG.out.2.2; simp [zs_len]; omega) (by simp) rfl rfl rfl rfl rfl rfl ?_; intro A5 n5 c5 w5 hn5 hG5; have H5 := Lib.hid (And.intro hG5.own (show Old w w5 from Below.trans (HG.out.2.1.alloc _) hG5.below)); clear hG5) | (at_builtin; refine wp_app2 (.tmp 65) (.tmp 66) w.heap.size (.slice A5 n5 c5) _ H5.out.1 H5.out.2.size A3 m3 c3 ms (HH.out.2.2.2.1.below H5.out.2) (by have h1 := HG.out.2.2; have h3 := HH.out.2.2.2.2.2.2.2.2.2.2.2.2; simp [zs_len]; omega) rfl rfl rfl rfl ?_; intro A7 n7 c7 w6 hn7 hG7; have H6 := Lib.hid (And.intro hG7.own (show Old w w6 from Below.trans H5.out.2 hG7.below)); clear hG7))
                have hn7 := H6.out.1.len
                rw [HH.out.2.2.2.2.2.2.2.1] at hn7
                obtain ⟨DB, hDB⟩ : ∃ D, L ++ zs j ++ [1] ++ ms = D := ⟨_, rfl⟩
                have hT9 := HH.out.2.2.2.2.2.1
                rw [HH.out.2.2.2.2.2.2.2.1, ← hn7] at hT9
                rw [hDB] at hT9
                have hx3 := HH.out.2.2.2.2.2.2.2.2.2.2.2.1
                have hki := HH.out.2.2.2.2.2.2.1
                have hmk1 : maskAll kind seed (n7 : Int) = mask kind seed n7 := by unfold maskAll; rw [if_pos ⟨hki, by omega, by have := HH.out.2.2.2.2.2.2.2.2.1; omega⟩, Int.toNat_natCast]
                have H6' := Lib.hid (And.intro (show Own w6 w.heap.size (.slice A7 n7 c7) DB by rw [← hDB]; exact H6.out.1) (And.intro hn7 hT9))
                have hD7 : n7 ≤ 200 := by have := HH.out.2.2.2.2.2.2.2.2.1; omega
                have hm64 : m2 ≤ 200 := by have := HH.out.2.2.2.2.2.2.2.2.1; omega
                have HD7 := Lib.hid (And.intro hD7 (And.intro hm64 (And.intro (HH.out.2.2.2.2.2.2.2.2.2.1) (And.intro (show n7 ≥ 1 by omega) hx3))))
                clear hn7 hT9 hDB hD7 hm64 hx3
                refine (rmgf1_all kind n7 A2 m2 c2 seed w6 (HH.out.2.2.1.below H6.out.2) (by have := HD7.out; omega)).mono ?_
                rintro e w7 ⟨A8, n8, c8, rfl, hR8, hB8⟩
                rw [hmk1] at hR8
                have hn8 := hR8.1
                rw [mask_len kind hki seed (by have := HD7.out; omega)] at hn8
                have H8 := Lib.hid (And.intro hR8 (And.intro (show Old w w7 from Old.trans H6.out.2 hB8) (And.intro (H6'.out.1.rd.below hB8) hn8)))
                clear hR8 hB8 hn8
                go_wp2_with fail
                refine (rxor8_any A7 A8 n7 c7 n8 c8 _ _ w7 H8.out.2.2.1 H8.out.1 (by rw [H8.out.2.2.2]; exact Nat.le_refl _) (by have := HD7.out; omega)).mono ?_
                rintro e w8 ⟨rfl, hO8, hB8⟩
                have hX8 : (xorB DB (mask kind seed n7)).length = n7 := hO8.len.symm
                obtain ⟨X8, hXe⟩ : ∃ X, xorB DB (mask kind seed n7) = X := ⟨_, rfl⟩
                rw [hXe] at hO8 hX8
                have hmk2 : maskAll kind X8 (m2 : Int) = mask kind X8 m2 := by unfold maskAll; rw [if_pos ⟨hki, by have := HD7.out; omega, by have := HD7.out; omega⟩, Int.toNat_natCast]
                have H9 := Lib.hid (And.intro hO8.rd (And.intro (show Old w w8 from Old.trans H8.out.2.1 hB8) hX8))
                clear hO8 hB8 hX8
                go_wp2_with fail
                refine (rmgf1_all kind m2 _ n7 n7 X8 w8 H9.out.1 (by rw [H9.out.2.2]; have := HD7.out; omega)).mono ?_
                rintro e w9 ⟨A9, n9, c9, rfl, hR9, hB9⟩
                rw [hmk2] at hR9
                have hn9 := hR9.1
                rw [mask_len kind hki X8 (by rw [H9.out.2.2]; have := HD7.out; omega)] at hn9
                have H10 := Lib.hid (And.intro hR9 (And.intro (show Old w w9 from Old.trans H9.out.2.1 hB9) (And.intro (H9.out.1.below hB9) hn9)))
                clear hR9 hB9 hn9
                go_wp2_with fail
                refine (rxor8_any A2 A9 m2 c2 n9 c9 _ _ w9 (HH.out.2.2.1.below H10.out.2.1) H10.out.1 (by rw [H10.out.2.2.2]; exact Nat.le_refl _) (by have := HD7.out; omega)).mono ?_
                rintro e w10 ⟨rfl, hO11, hB11⟩
                obtain ⟨w11, hw11⟩ : ∃ w11, w10.alloc (.cells #[.int .u8 0] 5) = w11 := ⟨_, rfl⟩
                have hr11 : Rd w11 (some ⟨w10.heap.size, 0, none⟩) 1 1 [0] := by rw [← hw11]; exact (own_new w10 [0] _ 1 rfl rfl (by decide)).rd
                have hb11 : Old w10 w11 := by rw [← hw11]; exact (Old.refl w10).alloc _
                obtain ⟨w12, hw12⟩ : ∃ w12, w11.alloc (.cells #[.slice (some ⟨w10.heap.size, 0, none⟩) 1 1, .slice (some ⟨w9.heap.size, 0, none⟩) m2 m2, .slice (some ⟨w7.heap.size, 0, none⟩) n7 n7] 22) = w12 := ⟨_, rfl⟩
                have hb12 : Old w11 w12 := by rw [← hw12]; exact (Old.refl w11).alloc _
                have hO12 : Old w10 w12 := Old.trans hb11 hb12
                have hPP : PartsAt w12 (some ⟨w11.heap.size, 0, none⟩) 3 3 [[0], xorB seed (mask kind X8 m2), X8] := rd_three (by rw [← hw12]; exact Blk.new _ _ _) (hr11.below hb12) (hO11.rd.below hO12) ((H10.out.2.2.1.below hB11).below hO12)
                have hlen : ([[0], xorB seed (mask kind X8 m2), X8] : List (List UInt8)).flatten.length ≤ 140737488355000 := by
                  have h1 := hO11.len
                  have h2 := H9.out.2.2
                  have h3 := HD7.out
                  simp only [List.flatten_cons, List.flatten_nil, List.length_append, List.length_nil, List.length_singleton]
                  omega
                have HJ := Lib.hid (And.intro (join_any _ 3 3 _ w12 hPP hlen) (Old.trans (Old.trans H10.out.2.1 hB11) hO12))
                clear hr11 hb11 hb12 hO12 hPP hlen hO11 hB11
                go_wp2_with fail
                refine HJ.out.1.mono ?_
                rintro e w13 ⟨v, rfl, hO13, hB13⟩
                obtain ⟨A13, c13, rfl, hr13, _⟩ := hO13.shape
                have H13 := Lib.hid (And.intro hr13 (Old.trans HJ.out.2 hB13))
                clear hO13 hr13 hB13 hw11 hw12
                go_wp2_with fail
                refine bodyPost_ret (results_tmp2 rfl _ _ _) rfl ?_
                refine ⟨_, _, _, rfl, ?_, H13.out.2⟩
                have := H13.out.1
                rw [← H6'.out.2.2, hXe]
                simpa using this
      · rw [if_pos (.inr (.inr d3))]
        have b3 : ((m2 : Int) != h) = true := by simpa using d3
        clear h64 hh hin h1 h2 h3 hl1 hl2 hl3 hK
        go_enter Tryd.func17, Tryd.ntmps17
        go_wp2_with fail
        refine HS.out.mono ?_
        rintro e w' ⟨rfl, rfl⟩
        go_wp2_with fail
        refine bodyPost_ret (results_tmp2 rfl _ _ _) rfl ?_
        exact ⟨none, 0, 0, rfl, Rd.nil _, Old.refl _⟩
end Go.Proofs.YtddemlajfbagdaaDoor
