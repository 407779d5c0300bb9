/-
  DER: the reference's OID.
-/
import Derived.Test.YtgkhhinjdojbhaaRn5
import Derived.Test.YtgkhhinjdojbhaaDer21
namespace Go.Proofs.Ytgkhhinjdojbhaa
open Go.RowKit

/-- The bytes behind j arcs. -/
def refB (l : List Int) (j : Nat) : List UInt8 := if j < 2 then [] else dig (40 * l.getD 0 0 + l.getD 1 0).toNat ++ digAll ((l.drop 2).take (j - 2))
theorem refB_low {l : List Int} {j : Nat} (h : j < 2) : refB l j = [] := by unfold refB; rw [if_pos h]
theorem refB_two (l : List Int) : refB l 2 = [] ++ dig (40 * l.getD 0 0 + l.getD 1 0).toNat := by unfold refB; rw [if_neg (by omega)]; simp [digAll]
theorem refB_step {l : List Int} {j : Nat} {a : Int} (hj : 2 ≤ j) (ha : l[j]? = some a) : refB l (j + 1) = refB l j ++ dig a.toNat := by
  unfold refB
  rw [if_neg (by omega), if_neg (by omega), show j + 1 - 2 = j - 2 + 1 by omega, digAll_step (a := a) (by rw [List.getElem?_drop, show 2 + (j - 2) = j by omega]; exact ha), List.append_assoc]
theorem refB_full {l : List Int} {j : Nat} (hj : l.length = j) (h2 : 2 ≤ j) : refB l j = oidB l := by
  unfold refB oidB
  rw [if_neg (by omega), List.take_of_length_le (by rw [List.length_drop]; omega)]
set_option maxRecDepth 100000 in
set_option maxHeartbeats 8000000 in
theorem roid_any (A : Option Addr) (m c : Nat) (l : List Int) (w : World) (h : RdC Try.eI w A m l) (hm : m ≤ 1000) :
    Calls Try.prog 24 #[.slice A m c] w fun e w' => OidPost w w' e l (oidOk l) ∧ Below w.heap.size w w' := by
  obtain ⟨X, hX⟩ : ∃ X, w.heap.size = X := ⟨_, rfl⟩
  obtain ⟨wA, hwA⟩ : ∃ wA, w.alloc (.cells #[.int .i64 0, .slice none 0 0, .slice none 0 0] 25) = wA := ⟨_, rfl⟩
  have bA : Blk wA X 25 #[.int .i64 0, .slice none 0 0, .slice none 0 0] := by rw [← hwA, ← hX]; exact Blk.new _ _ _
  have hbA : Below w.heap.size w wA := by rw [← hwA]; exact (Below.refl _ _).alloc (Nat.le_refl _) _
  have hsA : wA.heap.size = X + 1 := by rw [← hwA, ← hX]; simp
  have hlm := h.1
  obtain ⟨ok, hok⟩ : ∃ ok, oidOk l = ok := ⟨_, rfl⟩
  rw [hok]
  unfold oidOk oidHead at hok
  have HA := Lib.hid (And.intro bA (And.intro hbA (And.intro hsA (h.below hbA))))
  clear bA hbA hsA h
  go_enter Try.func24, Try.ntmps24
  go_upto_region 1 with fail
  try rw [hX]
  try rw [hwA]
  by_cases h2 : m < 2
  · have t1 : (m : Int) < 2 := by omega
    have t1d : decide ((m : Int) < 2) = true := decide_eq_true t1
    have HN := Lib.hid (show ok = false by rw [← hok, decide_eq_false (show ¬ 2 ≤ l.length by omega)]; rfl)
    clear hok hlm
    go_wp2_with (refine wpList_store_arr rfl 25 (.tmp 2) (.tmp 29) rfl X 25 _ [.int .i64 0, .slice none 0 0, .slice none 0 0] HA.out.1 rfl rfl (by kernel_rfl) rfl rfl ?_; intro w9 hB9 hT9; have H9 := Lib.hid (And.intro hB9 hT9); clear hB9 hT9)
    refine bodyPost_ret (node_resB (f := zNF) rfl rfl H9.out.1) rfl ?_
    rw [HN.out]
    have hb9 : Below w.heap.size w w9 := below_turn (HA.out.2.1) H9.out.2 (fun t ht => by simp at ht; omega) (HA.out.2.1).size
    exact ⟨rfl, by first | exact hb9 | (rw [← hX]; exact hb9)⟩
  have t1 : ¬ (m : Int) < 2 := by omega
  have t1d : decide ((m : Int) < 2) = false := decide_eq_false t1
  rw [decide_eq_true (show 2 ≤ l.length by omega), Bool.true_and] at hok
  obtain ⟨a0, ha0⟩ : ∃ a0, l[0]? = some a0 := ⟨_, List.getElem?_eq_getElem (by omega)⟩
  obtain ⟨a1, ha1⟩ : ∃ a1, l[1]? = some a1 := ⟨_, List.getElem?_eq_getElem (by omega)⟩
  have d0 : l.getD 0 0 = a0 := by rw [List.getD_eq_getElem?_getD, ha0]; rfl
  have d1 : l.getD 1 0 = a1 := by rw [List.getD_eq_getElem?_getD, ha1]; rfl
  rw [d0, d1] at hok
  obtain ⟨g, off, hAe, c0⟩ := int_at HA.out.2.2.2 ha0
  subst hAe
  obtain ⟨g', off', hAe, c1⟩ := int_at HA.out.2.2.2 ha1
  injection hAe with hAe
  injection hAe with e1 e2
  subst e1
  subst e2
  rw [Nat.add_zero] at c0
  have i0 : (0 : Int) < m := by omega
  have i1 : (1 : Int) < m := by omega
  have HL := Lib.hid (And.intro ha0 (And.intro ha1 (And.intro d0 (And.intro d1 hlm))))
  clear ha0 ha1 d0 d1 hlm
  by_cases h3 : 2 < a0
  · have t2d : decide (2 < a0) = true := decide_eq_true h3
    have HN := Lib.hid (show ok = false by rw [← hok, decide_eq_false (show ¬ a0 ≤ 2 by omega)]; rfl)
    clear hok
    go_wp2_with (refine wpList_store_arr rfl 25 (.tmp 2) (.tmp 29) rfl X 25 _ [.int .i64 0, .slice none 0 0, .slice none 0 0] HA.out.1 rfl rfl (by kernel_rfl) rfl rfl ?_; intro w9 hB9 hT9; have H9 := Lib.hid (And.intro hB9 hT9); clear hB9 hT9)
    refine bodyPost_ret (node_resB (f := zNF) rfl rfl H9.out.1) rfl ?_
    rw [HN.out]
    have hb9 : Below w.heap.size w w9 := below_turn (HA.out.2.1) H9.out.2 (fun t ht => by simp at ht; omega) (HA.out.2.1).size
    exact ⟨rfl, by first | exact hb9 | (rw [← hX]; exact hb9)⟩
  have t2d : decide (2 < a0) = false := decide_eq_false h3
  rw [decide_eq_true (show a0 ≤ 2 by omega), Bool.true_and] at hok
  have hcut : (a0 < 2 ∧ 39 < a1) ∨ ¬ (a0 < 2 ∧ 39 < a1) := Classical.em _
  rcases hcut with ⟨h4, h5⟩ | hn
  · have t3d : decide (a0 < 2) = true := decide_eq_true h4
    have t4d : decide (39 < a1) = true := decide_eq_true h5
    have HN := Lib.hid (show ok = false by rw [← hok, decide_eq_false (show ¬ 2 ≤ a0 by omega), decide_eq_false (show ¬ a1 ≤ 39 by omega)]; rfl)
    clear hok
    go_wp2_with (refine wpList_store_arr rfl 25 (.tmp 2) (.tmp 29) rfl X 25 _ [.int .i64 0, .slice none 0 0, .slice none 0 0] HA.out.1 rfl rfl (by kernel_rfl) rfl rfl ?_; intro w9 hB9 hT9; have H9 := Lib.hid (And.intro hB9 hT9); clear hB9 hT9)
    refine bodyPost_ret (node_resB (f := zNF) rfl rfl H9.out.1) rfl ?_
    rw [HN.out]
    have hb9 : Below w.heap.size w w9 := below_turn (HA.out.2.1) H9.out.2 (fun t ht => by simp at ht; omega) (HA.out.2.1).size
    exact ⟨rfl, by first | exact hb9 | (rw [← hX]; exact hb9)⟩
  have hok2 : l.all arcOk = ok := by
    rw [← hok]
    by_cases h4 : a0 < 2
    · rw [decide_eq_false (show ¬ 2 ≤ a0 by omega), decide_eq_true (show a1 ≤ 39 by omega)]; rfl
    · rw [decide_eq_true (show 2 ≤ a0 by omega)]; rfl
  have HOK := Lib.hid hok2
  clear hok hok2
  have HP := Lib.hid (show 0 ≤ a0 → 0 ≤ a1 → a1 ≤ 268435456 → True from fun _ _ _ => trivial)
  go_cut [28] (fun s wx => s = .bool false ∧ wx = wA)
  case first =>
    by_cases h4 : a0 < 2
    · have t3d : decide (a0 < 2) = true := decide_eq_true h4
      have h5 : ¬ 39 < a1 := fun h => hn ⟨h4, h⟩
      have t4d : decide (39 < a1) = false := decide_eq_false h5
      clear hn
      go_wp2_with fail
      go_meet
      exact ⟨rfl, rfl⟩
    · have t3d : decide (a0 < 2) = false := decide_eq_false h4
      clear hn
      go_wp2_with fail
      go_meet
      exact ⟨rfl, rfl⟩
  case rest =>
    obtain ⟨rfl, hcut⟩ := hcut
    subst hcut
    obtain ⟨wF, hwF⟩ : ∃ wF, wF = wc := ⟨_, rfl⟩
    subst hwF
    clear t2d
    go_wp2_with fail
    clear hn
    go_loopw [4, 5] (fun bb ii wr => ∃ (j : Nat) (Ab : Option Addr) (nb cb : Nat), j ≤ m ∧ ii = .int .i64 (j : Int) ∧ bb = .slice Ab nb cb ∧ Own wr (X + 1) (.slice Ab nb cb) (refB l j) ∧ nb ≤ 6 * (j + 1) ∧ Below (X + 1) wF wr ∧ (l.take j).all arcOk = true) (fun _ ii _ => m - (intOf ii).toNat)
    case atStart => exact ⟨0, none, 0, 0, by omega, rfl, rfl, by rw [refB_low (by omega)]; exact Own.nil _ _, by omega, Below.refl _ _, rfl⟩
    case round =>
      obtain ⟨j, Ab, nb, cb, hj, rfl, rfl, hO, hnb, hB, hall⟩ := hrel
      have hX9 : X + 1 ≤ wr.heap.size := by have := hB.size; have := HA.out.2.2.1; omega
      have hBw : Below w.heap.size w wr := HA.out.2.1.trans (hB.mono (by omega))
      have hXr := HA.out.1.keep (hB.block X (by omega))
      have hRr : RdC Try.eI wr (some ⟨g, off, none⟩) m l := HA.out.2.2.2.keep hB.size (fun ad had => hB.block ad.block (by
        obtain ⟨g9, o9, e9, h9, _⟩ := HA.out.2.2.2.at_ HL.out.1
        rw [e9] at had
        injection had with had
        subst had
        have := HA.out.2.2.1
        simp; omega))
      have HR := Lib.hid (And.intro hX9 (And.intro hBw (And.intro hXr hRr)))
      have HO := Lib.hid (And.intro hO (And.intro hB hnb))
      clear hX9 hBw hXr hO hB hnb
      by_cases hlt : j < m
      · have hi : (j : Int) < m := by omega
        have hd : decide ((j : Int) < (m : Int)) = true := decide_eq_true hi
        have hk0 : ¬ ((j : Int) < 0) := by omega
        obtain ⟨a, ha⟩ : ∃ a, l[j]? = some a := ⟨_, List.getElem?_eq_getElem (by have := HL.out.2.2.2.2; omega)⟩
        obtain ⟨g2, off2, hAe, ca⟩ := int_at hRr ha
        injection hAe with hAe
        injection hAe with e1 e2
        subst e1
        subst e2
        obtain ⟨g3, off3, hAe, cb0⟩ := int_at hRr HL.out.1
        injection hAe with hAe
        injection hAe with e1 e2
        subst e1
        subst e2
        rw [Nat.add_zero] at cb0
        clear hRr
        by_cases hbad : arcOk a = false
        · have HN := Lib.hid (show ok = false by
            rw [← HOK.out]
            cases hh : l.all arcOk with
            | false => rfl
            | true => rw [List.all_eq_true.1 hh a (List.mem_of_getElem? ha)] at hbad; cases hbad)
          by_cases hneg : a < 0
          · have t5d : decide (a < 0) = true := decide_eq_true hneg
            clear ha hbad hall
            go_wp2_with (refine wpList_store_arr rfl 25 (.tmp 2) (.tmp 48) rfl X 25 _ [.int .i64 0, .slice none 0 0, .slice none 0 0] HR.out.2.2.1 rfl rfl (by kernel_rfl) rfl rfl ?_; intro w9 hB9 hT9; have H9 := Lib.hid (And.intro hB9 hT9); clear hB9 hT9)
            refine bodyPost_ret (node_resB (f := zNF) rfl rfl H9.out.1) rfl ?_
            rw [HN.out]
            have hb9 : Below w.heap.size w w9 := below_turn (HR.out.2.1) H9.out.2 (fun t ht => by simp at ht; omega) (HR.out.2.1).size
            exact ⟨rfl, by first | exact hb9 | (rw [← hX]; exact hb9)⟩
          · have t5d : decide (a < 0) = false := decide_eq_false hneg
            have hbig : 268435456 < a := by
              unfold arcOk at hbad
              rw [decide_eq_true (show 0 ≤ a by omega), Bool.true_and, decide_eq_false_iff_not] at hbad
              omega
            have t6d : decide (268435456 < a) = true := decide_eq_true hbig
            clear ha hbad hall
            go_wp2_with (refine wpList_store_arr rfl 25 (.tmp 2) (.tmp 48) rfl X 25 _ [.int .i64 0, .slice none 0 0, .slice none 0 0] HR.out.2.2.1 rfl rfl (by kernel_rfl) rfl rfl ?_; intro w9 hB9 hT9; have H9 := Lib.hid (And.intro hB9 hT9); clear hB9 hT9)
            refine bodyPost_ret (node_resB (f := zNF) rfl rfl H9.out.1) rfl ?_
            rw [HN.out]
            have hb9 : Below w.heap.size w w9 := below_turn (HR.out.2.1) H9.out.2 (fun t ht => by simp at ht; omega) (HR.out.2.1).size
            exact ⟨rfl, by first | exact hb9 | (rw [← hX]; exact hb9)⟩
        · have hgood : arcOk a = true := by cases hh : arcOk a with | true => rfl | false => exact absurd hh hbad
          have hg2 := hgood
          unfold arcOk at hg2
          rw [Bool.and_eq_true, decide_eq_true_eq, decide_eq_true_eq] at hg2
          obtain ⟨q1, q2⟩ := hg2
          have q3 : ¬ a < 0 := by omega
          have t5d : decide (a < 0) = false := decide_eq_false q3
          have q4 : ¬ 268435456 < a := by omega
          have t6d : decide (268435456 < a) = false := decide_eq_false q4
          have HG := Lib.hid (show (l.take (j + 1)).all arcOk = true by rw [List.take_add_one, ha, List.all_append, hall]; simp [hgood])
          by_cases hj0 : j = 0
          · subst hj0
            obtain rfl : a0 = a := by have h1 := HL.out.1; rw [ha] at h1; injection h1 with h1; exact h1.symm
            clear ha hbad hgood hall
            clear ca
            go_wp2_with fail
            go_roundw
            case measure => simp [intOf]; omega
            have h9 := HO.out.1
            rw [refB_low (by omega)] at h9
            exact ⟨1, Ab, nb, cb, by omega, by simp, rfl, by rw [refB_low (by omega)]; exact h9, by have := HO.out.2.2; omega, HO.out.2.1, HG.out⟩
          · have hj0d : ((j : Int) == 0) = false := by simp; omega
            have hj0e : ¬ ((j : Int) = 0) := by omega
            have hj0f : decide ((j : Int) = 0) = false := decide_eq_false hj0e
            by_cases hj1 : j = 1
            · subst hj1
              obtain rfl : a = a1 := by have h1 := HL.out.2.1; rw [ha] at h1; injection h1
              have h0ok : arcOk a0 = true := by
                refine List.all_eq_true.1 hall a0 ?_
                rw [List.mem_iff_getElem?]
                exact ⟨0, by rw [List.getElem?_take, if_pos (by omega)]; exact HL.out.1⟩
              unfold arcOk at h0ok
              rw [Bool.and_eq_true, decide_eq_true_eq, decide_eq_true_eq] at h0ok
              obtain ⟨r0, r1⟩ := h0ok
              obtain ⟨U, hU⟩ : ∃ U : Nat, a + 40 * a0 = U := ⟨(a + 40 * a0).toNat, by omega⟩
              have hUb : U < 536870912 := by omega
              have w1 : IntKind.i64.wrap (40 * a0) = 40 * a0 := IntWalk.i64_in _ (by omega)
              have w2 : IntKind.i64.wrap (U : Int) = (U : Int) := IntWalk.i64_in _ (by omega)
              have HE := Lib.hid (show refB l (1 + 1) = refB l 1 ++ dig U by rw [refB_two, refB_low (by omega), HL.out.2.2.1, HL.out.2.2.2.1, show 40 * a0 + a = (U : Int) by omega, Int.toNat_natCast])
              clear ha hbad hgood hall hj0 hj0e
              obtain ⟨wo, hwo⟩ : ∃ wo, wo = wr := ⟨_, rfl⟩
              subst hwo
              obtain ⟨Y, hY⟩ : ∃ Y, wo.heap.size = Y := ⟨_, rfl⟩
              have hdD : dig U = digHi (U / 128) ++ [UInt8.ofNat (U % 128)] := rfl
              obtain ⟨r, hr⟩ : ∃ r, U % 128 = r := ⟨_, rfl⟩
              obtain ⟨q, hq⟩ : ∃ q, U / 128 = q := ⟨_, rfl⟩
              have hq1 : (U : Int).tdiv 128 = (q : Int) := by rw [Int.tdiv_eq_ediv_of_nonneg (by omega)]; omega
              have hr0 : (U : Int).tmod 128 = (r : Int) := by rw [Int.tmod_eq_emod_of_nonneg (by omega)]; omega
              have hql : q < 4194304 := by omega
              have hr1 : (r : Int) % 256 = r := by omega
              have hr2 : r < 128 := by omega
              rw [hr, hq] at hdD
              have hBr := B_small (n := r) (by omega)
              obtain ⟨wA1, hwA1⟩ : ∃ wA1, wo.alloc (.cells #[.int .u8 (r : Int)] 5) = wA1 := ⟨_, rfl⟩
              have bA1 : Blk wA1 Y 5 #[B (UInt8.ofNat r)] := by rw [hBr, ← hwA1, ← hY]; exact Blk.new _ _ _
              have hbA1 : Below wo.heap.size wo wA1 := by rw [← hwA1]; exact (Below.refl _ _).alloc (Nat.le_refl _) _
              have hOA1 := Own.one (base := Y) bA1 (Nat.le_refl _)
              have HA1 := Lib.hid (And.intro hOA1 (And.intro hbA1 (And.intro hdD hY)))
              have HY := Lib.hid (show X + 1 ≤ Y by rw [← hY]; exact HR.out.1)
              clear hOA1 hbA1 bA1 hBr hdD hr hq
              go_wp2_with fail
              try rw [hY]
              try rw [hwA1]
              clear hwA1 hY
              go_wp2_with fail
              go_loopw [6, 7] (fun kk ll wz => ∃ (k : Nat) (A : Option Addr) (nl cl : Nat) (l' : List UInt8), k ≤ q ∧ kk = .int .i64 (k : Int) ∧ ll = .slice A nl cl ∧ Own wz Y (.slice A nl cl) l' ∧ l'.length + (digHi k).length ≤ 6 ∧ digHi k ++ l' = dig U ∧ Below Y wo wz) (fun kk _ _ => (intOf kk).toNat)
              case atStart => exact ⟨q, some ⟨Y, 0, none⟩, 1, 1, [UInt8.ofNat r], Nat.le_refl _, rfl, rfl, HA1.out.1, by have := digHi_len (n := q) (k := 5) (by omega); simp; omega, by rw [HA1.out.2.2.1], by rw [← HA1.out.2.2.2]; exact HA1.out.2.1⟩
              case round =>
                obtain ⟨k, A, nl, cl, l', hk, rfl, rfl, hO, hlen, hdg, hB⟩ := hrel
                have hX2 : Y ≤ wr.heap.size := by have := hB.size; have := HA1.out.2.2.2; omega
                by_cases h0 : k = 0
                · subst h0
                  rw [digHi_zero, List.nil_append] at hdg
                  subst hdg
                  have hYs := HA1.out.2.2.2
                  have hBo : Below wo.heap.size wo wr := by rw [hYs]; exact hB
                  have hlO := hO.len
                  have HS := Lib.hid (And.intro hO.rd (And.intro hB (And.intro (HO.out.1.below hBo) (And.intro hlO hX2))))
                  clear hO hB hlen hYs hBo hlO
                  go_wp2_with (at_builtin; go_loud (refine wp_app2 (.tmp 80) (.tmp 81) (X + 1) (.slice Ab nb cb) _ HS.out.2.2.1 (by have := HS.out.2.2.2.2; have := HY.out; omega) A nl cl (dig U) HS.out.1 (by have := HS.out.2.2.1.len; have := HO.out.2.2; have := dig_len hUb; omega) rfl rfl rfl rfl ?_; intro A4 n4 c4 w4 hi4 hG; have H4 := Lib.hid hG; clear hG))
                  go_roundw
                  case measure => simp [intOf]; omega
                  have h4l := H4.out.len
                  rw [List.length_append] at h4l
                  have hBf : Below (X + 1) wF w4 := HO.out.2.1.trans ((HS.out.2.1.mono HY.out).trans H4.out.below)
                  exact ⟨1 + 1, A4, n4, c4, by omega, by simp, rfl, by rw [HE.out]; exact H4.out.own, by have := HS.out.2.2.1.len; have := HO.out.2.2; have := dig_len hUb; omega, hBf, HG.out⟩
                · have t1 : (0 : Int) < k := by omega
                  have t1d : decide ((0 : Int) < (k : Int)) = true := decide_eq_true t1
                  obtain ⟨r2, hr2'⟩ : ∃ r2, k % 128 = r2 := ⟨_, rfl⟩
                  obtain ⟨q2, hq2⟩ : ∃ q2, k / 128 = q2 := ⟨_, rfl⟩
                  have hlow := digHi_step (n := k) (l := l') h0
                  have hlh : (digHi k).length = (digHi q2).length + 1 := by
                    conv => lhs; rw [digHi, dif_neg h0]
                    rw [List.length_append, hq2]; rfl
                  rw [hr2', hq2] at hlow
                  have ha1' : (k : Int).tmod 128 = (r2 : Int) := by rw [Int.tmod_eq_emod_of_nonneg (by omega)]; omega
                  have hq3 : (k : Int).tdiv 128 = (q2 : Int) := by rw [Int.tdiv_eq_ediv_of_nonneg (by omega)]; omega
                  have hq4 : q2 < k := by omega
                  obtain ⟨s, hs⟩ : ∃ s, 128 + r2 = s := ⟨_, rfl⟩
                  have ho' : (128 : Int) + (r2 : Int) = (s : Int) := by omega
                  rw [hs] at hlow
                  have hs1 : (s : Int) % 256 = s := by omega
                  have hs2 : s < 256 := by omega
                  have hBs := B_small hs2
                  have bC : Blk (wr.alloc (.cells #[.int .u8 (s : Int)] 5)) wr.heap.size 5 #[B (UInt8.ofNat s)] := by rw [hBs]; exact Blk.new _ _ _
                  have hOC := Own.one (base := Y) bC hX2
                  have hbC : Below wr.heap.size wr (wr.alloc (.cells #[.int .u8 (s : Int)] 5)) := (Below.refl _ _).alloc (Nat.le_refl _) _
                  have HS := Lib.hid (And.intro hOC (And.intro (hO.below hbC).rd (And.intro (hB.alloc hX2 (.cells #[.int .u8 (s : Int)] 5)) (hlow.trans hdg))))
                  have HL2 := Lib.hid (And.intro hlen hlh)
                  clear hOC hbC bC hBs hO hB hlow hdg hlen hlh hr2' hq2 hs
                  go_wp2_with (at_builtin; go_loud (refine wp_app2 (.tmp 77) (.tmp 78) Y (.slice (some ⟨wr.heap.size, 0, none⟩) 1 1) [UInt8.ofNat s] HS.out.1 (by simp; omega) A nl cl l' HS.out.2.1 (by have := HL2.out.1; simp; omega) rfl rfl rfl rfl ?_; intro A4 n4 c4 w4 hi4 hG; have H4 := Lib.hid hG; clear hG))
                  go_roundw
                  case measure => simp [intOf]; omega
                  exact ⟨q2, A4, n4, c4, UInt8.ofNat s :: l', by omega, rfl, rfl, H4.out.own, by have := HL2.out.1; have := HL2.out.2; simp; omega, HS.out.2.2.2, HS.out.2.2.1.trans H4.out.below⟩
            · have hj1d : ((j : Int) == 1) = false := by simp; omega
              have hj1e : ¬ ((j : Int) = 1) := by omega
              have hj1f : decide ((j : Int) = 1) = false := decide_eq_false hj1e
              obtain ⟨U, rfl⟩ := Int.eq_ofNat_of_zero_le q1
              have hUb : U < 536870912 := by omega
              have HE := Lib.hid (show refB l (j + 1) = refB l j ++ dig U by rw [refB_step (by omega) ha, Int.toNat_natCast])
              clear ha hbad hgood hall hj0 hj0e hj1 hj1e
              obtain ⟨wo, hwo⟩ : ∃ wo, wo = wr := ⟨_, rfl⟩
              subst hwo
              obtain ⟨Y, hY⟩ : ∃ Y, wo.heap.size = Y := ⟨_, rfl⟩
              have hdD : dig U = digHi (U / 128) ++ [UInt8.ofNat (U % 128)] := rfl
              obtain ⟨r, hr⟩ : ∃ r, U % 128 = r := ⟨_, rfl⟩
              obtain ⟨q, hq⟩ : ∃ q, U / 128 = q := ⟨_, rfl⟩
              have hq1 : (U : Int).tdiv 128 = (q : Int) := by rw [Int.tdiv_eq_ediv_of_nonneg (by omega)]; omega
              have hr0 : (U : Int).tmod 128 = (r : Int) := by rw [Int.tmod_eq_emod_of_nonneg (by omega)]; omega
              have hql : q < 4194304 := by omega
              have hr1 : (r : Int) % 256 = r := by omega
              have hr2 : r < 128 := by omega
              rw [hr, hq] at hdD
              have hBr := B_small (n := r) (by omega)
              obtain ⟨wA1, hwA1⟩ : ∃ wA1, wo.alloc (.cells #[.int .u8 (r : Int)] 5) = wA1 := ⟨_, rfl⟩
              have bA1 : Blk wA1 Y 5 #[B (UInt8.ofNat r)] := by rw [hBr, ← hwA1, ← hY]; exact Blk.new _ _ _
              have hbA1 : Below wo.heap.size wo wA1 := by rw [← hwA1]; exact (Below.refl _ _).alloc (Nat.le_refl _) _
              have hOA1 := Own.one (base := Y) bA1 (Nat.le_refl _)
              have HA1 := Lib.hid (And.intro hOA1 (And.intro hbA1 (And.intro hdD hY)))
              have HY := Lib.hid (show X + 1 ≤ Y by rw [← hY]; exact HR.out.1)
              clear hOA1 hbA1 bA1 hBr hdD hr hq
              go_wp2_with fail
              try rw [hY]
              try rw [hwA1]
              clear hwA1 hY
              go_wp2_with fail
              go_loopw [6, 7] (fun kk ll wz => ∃ (k : Nat) (A : Option Addr) (nl cl : Nat) (l' : List UInt8), k ≤ q ∧ kk = .int .i64 (k : Int) ∧ ll = .slice A nl cl ∧ Own wz Y (.slice A nl cl) l' ∧ l'.length + (digHi k).length ≤ 6 ∧ digHi k ++ l' = dig U ∧ Below Y wo wz) (fun kk _ _ => (intOf kk).toNat)
              case atStart => exact ⟨q, some ⟨Y, 0, none⟩, 1, 1, [UInt8.ofNat r], Nat.le_refl _, rfl, rfl, HA1.out.1, by have := digHi_len (n := q) (k := 5) (by omega); simp; omega, by rw [HA1.out.2.2.1], by rw [← HA1.out.2.2.2]; exact HA1.out.2.1⟩
              case round =>
                obtain ⟨k, A, nl, cl, l', hk, rfl, rfl, hO, hlen, hdg, hB⟩ := hrel
                have hX2 : Y ≤ wr.heap.size := by have := hB.size; have := HA1.out.2.2.2; omega
                by_cases h0 : k = 0
                · subst h0
                  rw [digHi_zero, List.nil_append] at hdg
                  subst hdg
                  have hYs := HA1.out.2.2.2
                  have hBo : Below wo.heap.size wo wr := by rw [hYs]; exact hB
                  have hlO := hO.len
                  have HS := Lib.hid (And.intro hO.rd (And.intro hB (And.intro (HO.out.1.below hBo) (And.intro hlO hX2))))
                  clear hO hB hlen hYs hBo hlO
                  go_wp2_with (at_builtin; go_loud (refine wp_app2 (.tmp 80) (.tmp 81) (X + 1) (.slice Ab nb cb) _ HS.out.2.2.1 (by have := HS.out.2.2.2.2; have := HY.out; omega) A nl cl (dig U) HS.out.1 (by have := HS.out.2.2.1.len; have := HO.out.2.2; have := dig_len hUb; omega) rfl rfl rfl rfl ?_; intro A4 n4 c4 w4 hi4 hG; have H4 := Lib.hid hG; clear hG))
                  go_roundw
                  case measure => simp [intOf]; omega
                  have h4l := H4.out.len
                  rw [List.length_append] at h4l
                  have hBf : Below (X + 1) wF w4 := HO.out.2.1.trans ((HS.out.2.1.mono HY.out).trans H4.out.below)
                  exact ⟨j + 1, A4, n4, c4, by omega, by simp, rfl, by rw [HE.out]; exact H4.out.own, by have := HS.out.2.2.1.len; have := HO.out.2.2; have := dig_len hUb; omega, hBf, HG.out⟩
                · have t1 : (0 : Int) < k := by omega
                  have t1d : decide ((0 : Int) < (k : Int)) = true := decide_eq_true t1
                  obtain ⟨r2, hr2'⟩ : ∃ r2, k % 128 = r2 := ⟨_, rfl⟩
                  obtain ⟨q2, hq2⟩ : ∃ q2, k / 128 = q2 := ⟨_, rfl⟩
                  have hlow := digHi_step (n := k) (l := l') h0
                  have hlh : (digHi k).length = (digHi q2).length + 1 := by
                    conv => lhs; rw [digHi, dif_neg h0]
                    rw [List.length_append, hq2]; rfl
                  rw [hr2', hq2] at hlow
                  have ha1' : (k : Int).tmod 128 = (r2 : Int) := by rw [Int.tmod_eq_emod_of_nonneg (by omega)]; omega
                  have hq3 : (k : Int).tdiv 128 = (q2 : Int) := by rw [Int.tdiv_eq_ediv_of_nonneg (by omega)]; omega
                  have hq4 : q2 < k := by omega
                  obtain ⟨s, hs⟩ : ∃ s, 128 + r2 = s := ⟨_, rfl⟩
                  have ho' : (128 : Int) + (r2 : Int) = (s : Int) := by omega
                  rw [hs] at hlow
                  have hs1 : (s : Int) % 256 = s := by omega
                  have hs2 : s < 256 := by omega
                  have hBs := B_small hs2
                  have bC : Blk (wr.alloc (.cells #[.int .u8 (s : Int)] 5)) wr.heap.size 5 #[B (UInt8.ofNat s)] := by rw [hBs]; exact Blk.new _ _ _
                  have hOC := Own.one (base := Y) bC hX2
                  have hbC : Below wr.heap.size wr (wr.alloc (.cells #[.int .u8 (s : Int)] 5)) := (Below.refl _ _).alloc (Nat.le_refl _) _
                  have HS := Lib.hid (And.intro hOC (And.intro (hO.below hbC).rd (And.intro (hB.alloc hX2 (.cells #[.int .u8 (s : Int)] 5)) (hlow.trans hdg))))
                  have HL2 := Lib.hid (And.intro hlen hlh)
                  clear hOC hbC bC hBs hO hB hlow hdg hlen hlh hr2' hq2 hs
                  go_wp2_with (at_builtin; go_loud (refine wp_app2 (.tmp 77) (.tmp 78) Y (.slice (some ⟨wr.heap.size, 0, none⟩) 1 1) [UInt8.ofNat s] HS.out.1 (by simp; omega) A nl cl l' HS.out.2.1 (by have := HL2.out.1; simp; omega) rfl rfl rfl rfl ?_; intro A4 n4 c4 w4 hi4 hG; have H4 := Lib.hid hG; clear hG))
                  go_roundw
                  case measure => simp [intOf]; omega
                  exact ⟨q2, A4, n4, c4, UInt8.ofNat s :: l', by omega, rfl, rfl, H4.out.own, by have := HL2.out.1; have := HL2.out.2; simp; omega, HS.out.2.2.2, HS.out.2.2.1.trans H4.out.below⟩
      · obtain rfl : j = m := by omega
        have hi : ¬ (j : Int) < j := by omega
        have hd : decide ((j : Int) < (j : Int)) = false := decide_eq_false hi
        rw [List.take_of_length_le (by have := HL.out.2.2.2.2; omega)] at hall
        have hokt : ok = true := by rw [← HOK.out]; exact hall
        have HS := Lib.hid (And.intro hokt (show Own wr (X + 1) (.slice Ab nb cb) (oidB l) by have h9 := HO.out.1; rw [refB_full HL.out.2.2.2.2 (by omega)] at h9; exact h9))
        clear hall hokt hRr
        go_wp2_with (refine wpList_store_arr rfl 25 (.tmp 2) (.tmp 84) rfl X 25 _ [.int .i64 6, .slice Ab nb cb, .slice none 0 0] HR.out.2.2.1 rfl rfl (by kernel_rfl) rfl rfl ?_; intro w9 hB9 hT9; have H9 := Lib.hid (And.intro hB9 hT9); clear hB9 hT9)
        refine bodyPost_ret (node_resB (f := ⟨6, Ab, nb, cb, none, 0, 0⟩) rfl rfl H9.out.1) rfl ?_
        rw [HS.out.1]
        have hb9 : Below w.heap.size w w9 := below_turn HR.out.2.1 H9.out.2 (fun t ht => by simp at ht; omega) HR.out.2.1.size
        have ho9 := (HS.out.2.turn H9.out.2 (fun g hg => by have := (HS.out.2.lt hg).1; simp; omega)).mono (base' := w.heap.size) (by omega)
        exact ⟨⟨⟨6, Ab, nb, cb, none, 0, 0⟩, rfl, NdR.leaf ho9 (by decide)⟩, by first | exact hb9 | (rw [← hX]; exact hb9)⟩
end Go.Proofs.Ytgkhhinjdojbhaa
