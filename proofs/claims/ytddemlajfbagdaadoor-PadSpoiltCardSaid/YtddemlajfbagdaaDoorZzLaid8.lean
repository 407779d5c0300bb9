/-
  Pad: the law PadSpoilt.
  The tables that the rows of pad list; a world that holds them.
-/
import Derived.Test.YtddemlajfbagdaaDoorZzPd8o
import Derived.Test.YtddemlajfbagdaaDoorZzPd3
import Derived.Test.YtddemlajfbagdaaDoorP256
import Derived.Lay
namespace Go.Proofs.YtddemlajfbagdaaDoor
set_option maxRecDepth 100000
open Go.RowKit

set_option maxHeartbeats 8000000 in
theorem padSpoilt_any (bits k : Int) (x : UInt8) (A1 A2 : Option Addr) (m1 c1 m2 c2 : Nat) (hash salt : List UInt8) (w : World) (h1 : Rd w A1 m1 c1 hash) (h2 : Rd w A2 m2 c2 salt) (hK : KAt w) (hk1 : -9223372036854775808 ≤ k) (hk2 : k ≤ 9223372036854775807) :
    Calls Tryd.prog 6 #[.int .i64 bits, .slice A1 m1 c1, .slice A2 m2 c2, .int .i64 k, B x] w (LawRes w) := by
  have HS := Lib.hid (fun w' hw => short_any A2 m2 c2 30 salt w' (h2.below (w' := w') hw) (by omega))
  replace h2 := h2.short (n := 30)
  have g2 : min m2 30 ≤ 30 := Nat.min_le_right _ _
  generalize min m2 30 = p2 at *
  generalize salt.take 30 = ss at *
  have hbe := padbegun_any w hK
  by_cases z1 : 1500 < bits
  · have b1 : decide (bits > 1500) = true := decide_eq_true z1
    have z1i : bits > 1500 := z1
    by_cases z2 : bits ≤ 65536
    · have b2 : decide (bits ≤ 65536) = true := decide_eq_true z2
      obtain ⟨b5, hb5⟩ : ∃ x, bits % 1501 = x := ⟨_, rfl⟩
      have hb5r : 0 ≤ b5 ∧ b5 ≤ 1500 := by omega
      have hm5 : Int.tmod bits 1501 = b5 := by rw [Int.tmod_eq_emod_of_nonneg (by omega)]; exact hb5
      have hw5 : IntKind.i64.wrap b5 = b5 := IntWalk.i64_in _ (by omega)
      clear hb5
      have hf1 := fun W (hw : Old w W) => encpo_any 3 b5 A1 A2 m1 c1 p2 c2 hash ss W (h1.below hw) (h2.below hw) (hK.below hw) (by omega) (by omega)
      have hv := encPF_ver 3 b5 hash ss
      obtain ⟨l1, r1, hE⟩ : ∃ l b, encPF 3 b5 hash ss = (l, b) := ⟨_, _, rfl⟩
      rw [hE] at hf1 hv
      dsimp only at hv
      by_cases e0 : r1 = 0
      · subst e0
        obtain ⟨_, _, hv3, hv4⟩ := hv rfl
        have hf3 := fun W (hw : Old w W) A (c : Nat) l (hr : Rd W A l1.length c l) => verp_any 3 b5 (p2 : Int) A1 A m1 c1 l1.length c hash l W (h1.below hw) hr (hK.below hw) (by omega)
        have hf4 := fun W (hw : Old w W) A (c : Nat) l (hr : Rd W A l1.length c l) => rverp_any 3 b5 (p2 : Int) A1 A m1 c1 l1.length c hash l W (h1.below hw) hr (by omega)
        have h0l : ¬ l1.length = 0 := by omega
        have h0b : ((l1.length : Int) == 0) = false := by simp; intro e; rw [e] at h0l; exact h0l rfl
        by_cases zk : k < 0
        · have bk : decide (k < 0) = true := decide_eq_true zk
          obtain ⟨t1, ht1⟩ : ∃ t, k + 1 = t := ⟨_, rfl⟩
          have ht1w : IntKind.i64.wrap t1 = t1 := IntWalk.i64_in _ (by omega)
          obtain ⟨t2, ht2⟩ : ∃ t, -t1 = t := ⟨_, rfl⟩
          have ht2w : IntKind.i64.wrap t2 = t2 := IntWalk.i64_in _ (by omega)
          obtain ⟨q, hqi⟩ := Int.eq_ofNat_of_zero_le (show 0 ≤ t2 % (l1.length : Int) from Int.emod_nonneg _ (by omega))
          have hql : q < l1.length := by have := Int.emod_lt_of_pos t2 (show (0 : Int) < l1.length by omega); omega
          have hqm : Int.tmod t2 (l1.length : Int) = (q : Int) := by rw [Int.tmod_eq_emod_of_nonneg (by omega)]; exact hqi
          have hqw : IntKind.i64.wrap (q : Int) = (q : Int) := IntWalk.i64_in _ (by omega)
          have hqli : (q : Int) < (l1.length : Int) := by omega
          obtain ⟨y, hy⟩ : ∃ y, l1[q]? = some y := ⟨_, List.getElem?_eq_getElem hql⟩
          have HH := Lib.hid (And.intro hbe (And.intro hf1 (And.intro hf3 (And.intro hf4 (And.intro hy hql)))))
          clear hbe hf1 hf3 hf4 hv hE h1 h2 hK g2 hy hql hqi hv3 hv4
          go_enter Tryd.func6, Tryd.ntmps6
          go_wp2_with fail
          refine HH.out.1.mono ?_
          rintro e w1 ⟨rfl, hB1⟩
          have H1 := Lib.hid hB1
          clear hB1
          go_wp2_with fail
          refine (HS.out _ H1.out).mono ?_
          rintro e w' ⟨rfl, rfl⟩
          go_wp2_with fail
          refine (HH.out.2.1 _ H1.out).mono ?_
          rintro e w2 ⟨A4, n4, c4, rfl, hR2, hB2⟩
          have hR2 : Own w2 w1.heap.size (.slice A4 n4 c4) l1 := hR2
          have hn4 : n4 = l1.length := hR2.len
          obtain ⟨g, cg, e1⟩ := hR2.form (by intro e; injection e with _ e2 _; omega)
          injection e1 with e1 e2 e3
          subst e1 e3
          clear e2
          subst hn4
          have yq := hR2.cell q y HH.out.2.2.2.2.1
          have fq := hR2.frozen q
          have hqc : (q : Int) < (c4 : Int) := by have := hR2.rd.2.1; omega
          have hO9 := hR2.set_ q (y ^^^ x) HH.out.2.2.2.2.2
          have hT9 : Turn [g] w2 (w2.setCell ⟨g, q, none⟩ (B (y ^^^ x))) := (Turn.refl _ _).setCell (.inl (by simp)) _
          have hg1 := (hR2.lt (g := g) rfl).1
          have hB9 : Old w (w2.setCell ⟨g, q, none⟩ (B (y ^^^ x))) := below_turn (Old.trans H1.out hB2) hT9 (fun z hz => by
            have h1 : z = g := by simpa using hz
            have h2 := H1.out.size
            omega) (Old.trans H1.out hB2).size
          have hl9 : l1.length = (l1.set q (y ^^^ x)).length := by rw [List.length_set]
          have hR9 := hO9.rd
          obtain ⟨l9, hl⟩ : ∃ l, l1.set q (y ^^^ x) = l := ⟨_, rfl⟩
          rw [hl] at hR9
          have H9 := Lib.hid (And.intro hR9 hB9)
          clear hR2 hB2 hO9 hT9 hB9 hg1 hl9 hR9
          go_wp2_with fail
          refine (HH.out.2.2.1 _ H9.out.2 _ _ _ H9.out.1).mono ?_
          rintro e w4 ⟨q1, rfl, hq1, hB4⟩
          have H4 := Lib.hid (And.intro (H9.out.1.below hB4) (And.intro hq1 (Old.trans H9.out.2 hB4)))
          clear hq1 hB4
          go_wp2_with fail
          refine (HH.out.2.2.2.1 _ H4.out.2.2 _ _ _ H4.out.1).mono ?_
          rintro e w5 ⟨q2, rfl, hq2, hB5⟩
          have hqe : q1 = q2 := Bool.eq_iff_iff.2 (H4.out.2.1.trans hq2.symm)
          subst hqe
          have hqq : (q1 == q1) = true := by simp
          have H5 := Lib.hid (Old.trans H4.out.2.2 hB5)
          clear hq2 hB5
          go_wp2_with fail
          go_ret
          exact ⟨by first | rfl | simp, H5.out⟩
        · have bk : decide (k < 0) = false := decide_eq_false zk
          obtain ⟨q, hqi⟩ := Int.eq_ofNat_of_zero_le (show 0 ≤ k % (l1.length : Int) from Int.emod_nonneg _ (by omega))
          have hql : q < l1.length := by have := Int.emod_lt_of_pos k (show (0 : Int) < l1.length by omega); omega
          have hqm : Int.tmod k (l1.length : Int) = (q : Int) := by rw [Int.tmod_eq_emod_of_nonneg (by omega)]; exact hqi
          have hqw : IntKind.i64.wrap (q : Int) = (q : Int) := IntWalk.i64_in _ (by omega)
          have hqli : (q : Int) < (l1.length : Int) := by omega
          obtain ⟨y, hy⟩ : ∃ y, l1[q]? = some y := ⟨_, List.getElem?_eq_getElem hql⟩
          have HH := Lib.hid (And.intro hbe (And.intro hf1 (And.intro hf3 (And.intro hf4 (And.intro hy hql)))))
          clear hbe hf1 hf3 hf4 hv hE h1 h2 hK g2 hy hql hqi hv3 hv4
          go_enter Tryd.func6, Tryd.ntmps6
          go_wp2_with fail
          refine HH.out.1.mono ?_
          rintro e w1 ⟨rfl, hB1⟩
          have H1 := Lib.hid hB1
          clear hB1
          go_wp2_with fail
          refine (HS.out _ H1.out).mono ?_
          rintro e w' ⟨rfl, rfl⟩
          go_wp2_with fail
          refine (HH.out.2.1 _ H1.out).mono ?_
          rintro e w2 ⟨A4, n4, c4, rfl, hR2, hB2⟩
          have hR2 : Own w2 w1.heap.size (.slice A4 n4 c4) l1 := hR2
          have hn4 : n4 = l1.length := hR2.len
          obtain ⟨g, cg, e1⟩ := hR2.form (by intro e; injection e with _ e2 _; omega)
          injection e1 with e1 e2 e3
          subst e1 e3
          clear e2
          subst hn4
          have yq := hR2.cell q y HH.out.2.2.2.2.1
          have fq := hR2.frozen q
          have hqc : (q : Int) < (c4 : Int) := by have := hR2.rd.2.1; omega
          have hO9 := hR2.set_ q (y ^^^ x) HH.out.2.2.2.2.2
          have hT9 : Turn [g] w2 (w2.setCell ⟨g, q, none⟩ (B (y ^^^ x))) := (Turn.refl _ _).setCell (.inl (by simp)) _
          have hg1 := (hR2.lt (g := g) rfl).1
          have hB9 : Old w (w2.setCell ⟨g, q, none⟩ (B (y ^^^ x))) := below_turn (Old.trans H1.out hB2) hT9 (fun z hz => by
            have h1 : z = g := by simpa using hz
            have h2 := H1.out.size
            omega) (Old.trans H1.out hB2).size
          have hl9 : l1.length = (l1.set q (y ^^^ x)).length := by rw [List.length_set]
          have hR9 := hO9.rd
          obtain ⟨l9, hl⟩ : ∃ l, l1.set q (y ^^^ x) = l := ⟨_, rfl⟩
          rw [hl] at hR9
          have H9 := Lib.hid (And.intro hR9 hB9)
          clear hR2 hB2 hO9 hT9 hB9 hg1 hl9 hR9
          go_wp2_with fail
          refine (HH.out.2.2.1 _ H9.out.2 _ _ _ H9.out.1).mono ?_
          rintro e w4 ⟨q1, rfl, hq1, hB4⟩
          have H4 := Lib.hid (And.intro (H9.out.1.below hB4) (And.intro hq1 (Old.trans H9.out.2 hB4)))
          clear hq1 hB4
          go_wp2_with fail
          refine (HH.out.2.2.2.1 _ H4.out.2.2 _ _ _ H4.out.1).mono ?_
          rintro e w5 ⟨q2, rfl, hq2, hB5⟩
          have hqe : q1 = q2 := Bool.eq_iff_iff.2 (H4.out.2.1.trans hq2.symm)
          subst hqe
          have hqq : (q1 == q1) = true := by simp
          have H5 := Lib.hid (Old.trans H4.out.2.2 hB5)
          clear hq2 hB5
          go_wp2_with fail
          go_ret
          exact ⟨by first | rfl | simp, H5.out⟩
      · have b0 : (r1 != 0) = true := by simpa using e0
        have HH := Lib.hid (And.intro hbe (And.intro hf1 trivial))
        clear hbe hf1 hv hE h1 h2 hK g2 e0
        go_enter Tryd.func6, Tryd.ntmps6
        go_wp2_with fail
        refine HH.out.1.mono ?_
        rintro e w1 ⟨rfl, hB1⟩
        have H1 := Lib.hid hB1
        clear hB1
        go_wp2_with fail
        refine (HS.out _ H1.out).mono ?_
        rintro e w' ⟨rfl, rfl⟩
        go_wp2_with fail
        refine (HH.out.2.1 _ H1.out).mono ?_
        rintro e w2 ⟨A4, n4, c4, rfl, hR2, hB2⟩
        have H2 := Lib.hid (Old.trans H1.out hB2)
        clear hR2 hB2
        go_wp2_with fail
        go_ret
        exact ⟨rfl, H2.out⟩
    · have b2 : decide (bits ≤ 65536) = false := decide_eq_false z2
      have hf1 := fun W (hw : Old w W) => encpo_any 3 bits A1 A2 m1 c1 p2 c2 hash ss W (h1.below hw) (h2.below hw) (hK.below hw) (by omega) (by omega)
      have hv := encPF_ver 3 bits hash ss
      obtain ⟨l1, r1, hE⟩ : ∃ l b, encPF 3 bits hash ss = (l, b) := ⟨_, _, rfl⟩
      rw [hE] at hf1 hv
      dsimp only at hv
      by_cases e0 : r1 = 0
      · subst e0
        obtain ⟨_, _, hv3, hv4⟩ := hv rfl
        have hf3 := fun W (hw : Old w W) A (c : Nat) l (hr : Rd W A l1.length c l) => verp_any 3 bits (p2 : Int) A1 A m1 c1 l1.length c hash l W (h1.below hw) hr (hK.below hw) (by omega)
        have hf4 := fun W (hw : Old w W) A (c : Nat) l (hr : Rd W A l1.length c l) => rverp_any 3 bits (p2 : Int) A1 A m1 c1 l1.length c hash l W (h1.below hw) hr (by omega)
        have h0l : ¬ l1.length = 0 := by omega
        have h0b : ((l1.length : Int) == 0) = false := by simp; intro e; rw [e] at h0l; exact h0l rfl
        by_cases zk : k < 0
        · have bk : decide (k < 0) = true := decide_eq_true zk
          obtain ⟨t1, ht1⟩ : ∃ t, k + 1 = t := ⟨_, rfl⟩
          have ht1w : IntKind.i64.wrap t1 = t1 := IntWalk.i64_in _ (by omega)
          obtain ⟨t2, ht2⟩ : ∃ t, -t1 = t := ⟨_, rfl⟩
          have ht2w : IntKind.i64.wrap t2 = t2 := IntWalk.i64_in _ (by omega)
          obtain ⟨q, hqi⟩ := Int.eq_ofNat_of_zero_le (show 0 ≤ t2 % (l1.length : Int) from Int.emod_nonneg _ (by omega))
          have hql : q < l1.length := by have := Int.emod_lt_of_pos t2 (show (0 : Int) < l1.length by omega); omega
          have hqm : Int.tmod t2 (l1.length : Int) = (q : Int) := by rw [Int.tmod_eq_emod_of_nonneg (by omega)]; exact hqi
          have hqw : IntKind.i64.wrap (q : Int) = (q : Int) := IntWalk.i64_in _ (by omega)
          have hqli : (q : Int) < (l1.length : Int) := by omega
          obtain ⟨y, hy⟩ : ∃ y, l1[q]? = some y := ⟨_, List.getElem?_eq_getElem hql⟩
          have HH := Lib.hid (And.intro hbe (And.intro hf1 (And.intro hf3 (And.intro hf4 (And.intro hy hql)))))
          clear hbe hf1 hf3 hf4 hv hE h1 h2 hK g2 hy hql hqi hv3 hv4
          go_enter Tryd.func6, Tryd.ntmps6
          go_wp2_with fail
          refine HH.out.1.mono ?_
          rintro e w1 ⟨rfl, hB1⟩
          have H1 := Lib.hid hB1
          clear hB1
          go_wp2_with fail
          refine (HS.out _ H1.out).mono ?_
          rintro e w' ⟨rfl, rfl⟩
          go_wp2_with fail
          refine (HH.out.2.1 _ H1.out).mono ?_
          rintro e w2 ⟨A4, n4, c4, rfl, hR2, hB2⟩
          have hR2 : Own w2 w1.heap.size (.slice A4 n4 c4) l1 := hR2
          have hn4 : n4 = l1.length := hR2.len
          obtain ⟨g, cg, e1⟩ := hR2.form (by intro e; injection e with _ e2 _; omega)
          injection e1 with e1 e2 e3
          subst e1 e3
          clear e2
          subst hn4
          have yq := hR2.cell q y HH.out.2.2.2.2.1
          have fq := hR2.frozen q
          have hqc : (q : Int) < (c4 : Int) := by have := hR2.rd.2.1; omega
          have hO9 := hR2.set_ q (y ^^^ x) HH.out.2.2.2.2.2
          have hT9 : Turn [g] w2 (w2.setCell ⟨g, q, none⟩ (B (y ^^^ x))) := (Turn.refl _ _).setCell (.inl (by simp)) _
          have hg1 := (hR2.lt (g := g) rfl).1
          have hB9 : Old w (w2.setCell ⟨g, q, none⟩ (B (y ^^^ x))) := below_turn (Old.trans H1.out hB2) hT9 (fun z hz => by
            have h1 : z = g := by simpa using hz
            have h2 := H1.out.size
            omega) (Old.trans H1.out hB2).size
          have hl9 : l1.length = (l1.set q (y ^^^ x)).length := by rw [List.length_set]
          have hR9 := hO9.rd
          obtain ⟨l9, hl⟩ : ∃ l, l1.set q (y ^^^ x) = l := ⟨_, rfl⟩
          rw [hl] at hR9
          have H9 := Lib.hid (And.intro hR9 hB9)
          clear hR2 hB2 hO9 hT9 hB9 hg1 hl9 hR9
          go_wp2_with fail
          refine (HH.out.2.2.1 _ H9.out.2 _ _ _ H9.out.1).mono ?_
          rintro e w4 ⟨q1, rfl, hq1, hB4⟩
          have H4 := Lib.hid (And.intro (H9.out.1.below hB4) (And.intro hq1 (Old.trans H9.out.2 hB4)))
          clear hq1 hB4
          go_wp2_with fail
          refine (HH.out.2.2.2.1 _ H4.out.2.2 _ _ _ H4.out.1).mono ?_
          rintro e w5 ⟨q2, rfl, hq2, hB5⟩
          have hqe : q1 = q2 := Bool.eq_iff_iff.2 (H4.out.2.1.trans hq2.symm)
          subst hqe
          have hqq : (q1 == q1) = true := by simp
          have H5 := Lib.hid (Old.trans H4.out.2.2 hB5)
          clear hq2 hB5
          go_wp2_with fail
          go_ret
          exact ⟨by first | rfl | simp, H5.out⟩
        · have bk : decide (k < 0) = false := decide_eq_false zk
          obtain ⟨q, hqi⟩ := Int.eq_ofNat_of_zero_le (show 0 ≤ k % (l1.length : Int) from Int.emod_nonneg _ (by omega))
          have hql : q < l1.length := by have := Int.emod_lt_of_pos k (show (0 : Int) < l1.length by omega); omega
          have hqm : Int.tmod k (l1.length : Int) = (q : Int) := by rw [Int.tmod_eq_emod_of_nonneg (by omega)]; exact hqi
          have hqw : IntKind.i64.wrap (q : Int) = (q : Int) := IntWalk.i64_in _ (by omega)
          have hqli : (q : Int) < (l1.length : Int) := by omega
          obtain ⟨y, hy⟩ : ∃ y, l1[q]? = some y := ⟨_, List.getElem?_eq_getElem hql⟩
          have HH := Lib.hid (And.intro hbe (And.intro hf1 (And.intro hf3 (And.intro hf4 (And.intro hy hql)))))
          clear hbe hf1 hf3 hf4 hv hE h1 h2 hK g2 hy hql hqi hv3 hv4
          go_enter Tryd.func6, Tryd.ntmps6
          go_wp2_with fail
          refine HH.out.1.mono ?_
          rintro e w1 ⟨rfl, hB1⟩
          have H1 := Lib.hid hB1
          clear hB1
          go_wp2_with fail
          refine (HS.out _ H1.out).mono ?_
          rintro e w' ⟨rfl, rfl⟩
          go_wp2_with fail
          refine (HH.out.2.1 _ H1.out).mono ?_
          rintro e w2 ⟨A4, n4, c4, rfl, hR2, hB2⟩
          have hR2 : Own w2 w1.heap.size (.slice A4 n4 c4) l1 := hR2
          have hn4 : n4 = l1.length := hR2.len
          obtain ⟨g, cg, e1⟩ := hR2.form (by intro e; injection e with _ e2 _; omega)
          injection e1 with e1 e2 e3
          subst e1 e3
          clear e2
          subst hn4
          have yq := hR2.cell q y HH.out.2.2.2.2.1
          have fq := hR2.frozen q
          have hqc : (q : Int) < (c4 : Int) := by have := hR2.rd.2.1; omega
          have hO9 := hR2.set_ q (y ^^^ x) HH.out.2.2.2.2.2
          have hT9 : Turn [g] w2 (w2.setCell ⟨g, q, none⟩ (B (y ^^^ x))) := (Turn.refl _ _).setCell (.inl (by simp)) _
          have hg1 := (hR2.lt (g := g) rfl).1
          have hB9 : Old w (w2.setCell ⟨g, q, none⟩ (B (y ^^^ x))) := below_turn (Old.trans H1.out hB2) hT9 (fun z hz => by
            have h1 : z = g := by simpa using hz
            have h2 := H1.out.size
            omega) (Old.trans H1.out hB2).size
          have hl9 : l1.length = (l1.set q (y ^^^ x)).length := by rw [List.length_set]
          have hR9 := hO9.rd
          obtain ⟨l9, hl⟩ : ∃ l, l1.set q (y ^^^ x) = l := ⟨_, rfl⟩
          rw [hl] at hR9
          have H9 := Lib.hid (And.intro hR9 hB9)
          clear hR2 hB2 hO9 hT9 hB9 hg1 hl9 hR9
          go_wp2_with fail
          refine (HH.out.2.2.1 _ H9.out.2 _ _ _ H9.out.1).mono ?_
          rintro e w4 ⟨q1, rfl, hq1, hB4⟩
          have H4 := Lib.hid (And.intro (H9.out.1.below hB4) (And.intro hq1 (Old.trans H9.out.2 hB4)))
          clear hq1 hB4
          go_wp2_with fail
          refine (HH.out.2.2.2.1 _ H4.out.2.2 _ _ _ H4.out.1).mono ?_
          rintro e w5 ⟨q2, rfl, hq2, hB5⟩
          have hqe : q1 = q2 := Bool.eq_iff_iff.2 (H4.out.2.1.trans hq2.symm)
          subst hqe
          have hqq : (q1 == q1) = true := by simp
          have H5 := Lib.hid (Old.trans H4.out.2.2 hB5)
          clear hq2 hB5
          go_wp2_with fail
          go_ret
          exact ⟨by first | rfl | simp, H5.out⟩
      · have b0 : (r1 != 0) = true := by simpa using e0
        have HH := Lib.hid (And.intro hbe (And.intro hf1 trivial))
        clear hbe hf1 hv hE h1 h2 hK g2 e0
        go_enter Tryd.func6, Tryd.ntmps6
        go_wp2_with fail
        refine HH.out.1.mono ?_
        rintro e w1 ⟨rfl, hB1⟩
        have H1 := Lib.hid hB1
        clear hB1
        go_wp2_with fail
        refine (HS.out _ H1.out).mono ?_
        rintro e w' ⟨rfl, rfl⟩
        go_wp2_with fail
        refine (HH.out.2.1 _ H1.out).mono ?_
        rintro e w2 ⟨A4, n4, c4, rfl, hR2, hB2⟩
        have H2 := Lib.hid (Old.trans H1.out hB2)
        clear hR2 hB2
        go_wp2_with fail
        go_ret
        exact ⟨rfl, H2.out⟩
  · have b1 : decide (bits > 1500) = false := decide_eq_false z1
    have z1i : ¬ bits > 1500 := z1
    have hf1 := fun W (hw : Old w W) => encpo_any 3 bits A1 A2 m1 c1 p2 c2 hash ss W (h1.below hw) (h2.below hw) (hK.below hw) (by omega) (by omega)
    have hv := encPF_ver 3 bits hash ss
    obtain ⟨l1, r1, hE⟩ : ∃ l b, encPF 3 bits hash ss = (l, b) := ⟨_, _, rfl⟩
    rw [hE] at hf1 hv
    dsimp only at hv
    by_cases e0 : r1 = 0
    · subst e0
      obtain ⟨_, _, hv3, hv4⟩ := hv rfl
      have hf3 := fun W (hw : Old w W) A (c : Nat) l (hr : Rd W A l1.length c l) => verp_any 3 bits (p2 : Int) A1 A m1 c1 l1.length c hash l W (h1.below hw) hr (hK.below hw) (by omega)
      have hf4 := fun W (hw : Old w W) A (c : Nat) l (hr : Rd W A l1.length c l) => rverp_any 3 bits (p2 : Int) A1 A m1 c1 l1.length c hash l W (h1.below hw) hr (by omega)
      have h0l : ¬ l1.length = 0 := by omega
      have h0b : ((l1.length : Int) == 0) = false := by simp; intro e; rw [e] at h0l; exact h0l rfl
      by_cases zk : k < 0
      · have bk : decide (k < 0) = true := decide_eq_true zk
        obtain ⟨t1, ht1⟩ : ∃ t, k + 1 = t := ⟨_, rfl⟩
        have ht1w : IntKind.i64.wrap t1 = t1 := IntWalk.i64_in _ (by omega)
        obtain ⟨t2, ht2⟩ : ∃ t, -t1 = t := ⟨_, rfl⟩
        have ht2w : IntKind.i64.wrap t2 = t2 := IntWalk.i64_in _ (by omega)
        obtain ⟨q, hqi⟩ := Int.eq_ofNat_of_zero_le (show 0 ≤ t2 % (l1.length : Int) from Int.emod_nonneg _ (by omega))
        have hql : q < l1.length := by have := Int.emod_lt_of_pos t2 (show (0 : Int) < l1.length by omega); omega
        have hqm : Int.tmod t2 (l1.length : Int) = (q : Int) := by rw [Int.tmod_eq_emod_of_nonneg (by omega)]; exact hqi
        have hqw : IntKind.i64.wrap (q : Int) = (q : Int) := IntWalk.i64_in _ (by omega)
        have hqli : (q : Int) < (l1.length : Int) := by omega
        obtain ⟨y, hy⟩ : ∃ y, l1[q]? = some y := ⟨_, List.getElem?_eq_getElem hql⟩
        have HH := Lib.hid (And.intro hbe (And.intro hf1 (And.intro hf3 (And.intro hf4 (And.intro hy hql)))))
        clear hbe hf1 hf3 hf4 hv hE h1 h2 hK g2 hy hql hqi hv3 hv4
        go_enter Tryd.func6, Tryd.ntmps6
        go_wp2_with fail
        refine HH.out.1.mono ?_
        rintro e w1 ⟨rfl, hB1⟩
        have H1 := Lib.hid hB1
        clear hB1
        go_wp2_with fail
        refine (HS.out _ H1.out).mono ?_
        rintro e w' ⟨rfl, rfl⟩
        go_wp2_with fail
        refine (HH.out.2.1 _ H1.out).mono ?_
        rintro e w2 ⟨A4, n4, c4, rfl, hR2, hB2⟩
        have hR2 : Own w2 w1.heap.size (.slice A4 n4 c4) l1 := hR2
        have hn4 : n4 = l1.length := hR2.len
        obtain ⟨g, cg, e1⟩ := hR2.form (by intro e; injection e with _ e2 _; omega)
        injection e1 with e1 e2 e3
        subst e1 e3
        clear e2
        subst hn4
        have yq := hR2.cell q y HH.out.2.2.2.2.1
        have fq := hR2.frozen q
        have hqc : (q : Int) < (c4 : Int) := by have := hR2.rd.2.1; omega
        have hO9 := hR2.set_ q (y ^^^ x) HH.out.2.2.2.2.2
        have hT9 : Turn [g] w2 (w2.setCell ⟨g, q, none⟩ (B (y ^^^ x))) := (Turn.refl _ _).setCell (.inl (by simp)) _
        have hg1 := (hR2.lt (g := g) rfl).1
        have hB9 : Old w (w2.setCell ⟨g, q, none⟩ (B (y ^^^ x))) := below_turn (Old.trans H1.out hB2) hT9 (fun z hz => by
          have h1 : z = g := by simpa using hz
          have h2 := H1.out.size
          omega) (Old.trans H1.out hB2).size
        have hl9 : l1.length = (l1.set q (y ^^^ x)).length := by rw [List.length_set]
        have hR9 := hO9.rd
        obtain ⟨l9, hl⟩ : ∃ l, l1.set q (y ^^^ x) = l := ⟨_, rfl⟩
        rw [hl] at hR9
        have H9 := Lib.hid (And.intro hR9 hB9)
        clear hR2 hB2 hO9 hT9 hB9 hg1 hl9 hR9
        go_wp2_with fail
        refine (HH.out.2.2.1 _ H9.out.2 _ _ _ H9.out.1).mono ?_
        rintro e w4 ⟨q1, rfl, hq1, hB4⟩
        have H4 := Lib.hid (And.intro (H9.out.1.below hB4) (And.intro hq1 (Old.trans H9.out.2 hB4)))
        clear hq1 hB4
        go_wp2_with fail
        refine (HH.out.2.2.2.1 _ H4.out.2.2 _ _ _ H4.out.1).mono ?_
        rintro e w5 ⟨q2, rfl, hq2, hB5⟩
        have hqe : q1 = q2 := Bool.eq_iff_iff.2 (H4.out.2.1.trans hq2.symm)
        subst hqe
        have hqq : (q1 == q1) = true := by simp
        have H5 := Lib.hid (Old.trans H4.out.2.2 hB5)
        clear hq2 hB5
        go_wp2_with fail
        go_ret
        exact ⟨by first | rfl | simp, H5.out⟩
      · have bk : decide (k < 0) = false := decide_eq_false zk
        obtain ⟨q, hqi⟩ := Int.eq_ofNat_of_zero_le (show 0 ≤ k % (l1.length : Int) from Int.emod_nonneg _ (by omega))
        have hql : q < l1.length := by have := Int.emod_lt_of_pos k (show (0 : Int) < l1.length by omega); omega
        have hqm : Int.tmod k (l1.length : Int) = (q : Int) := by rw [Int.tmod_eq_emod_of_nonneg (by omega)]; exact hqi
        have hqw : IntKind.i64.wrap (q : Int) = (q : Int) := IntWalk.i64_in _ (by omega)
        have hqli : (q : Int) < (l1.length : Int) := by omega
        obtain ⟨y, hy⟩ : ∃ y, l1[q]? = some y := ⟨_, List.getElem?_eq_getElem hql⟩
        have HH := Lib.hid (And.intro hbe (And.intro hf1 (And.intro hf3 (And.intro hf4 (And.intro hy hql)))))
        clear hbe hf1 hf3 hf4 hv hE h1 h2 hK g2 hy hql hqi hv3 hv4
        go_enter Tryd.func6, Tryd.ntmps6
        go_wp2_with fail
        refine HH.out.1.mono ?_
        rintro e w1 ⟨rfl, hB1⟩
        have H1 := Lib.hid hB1
        clear hB1
        go_wp2_with fail
        refine (HS.out _ H1.out).mono ?_
        rintro e w' ⟨rfl, rfl⟩
        go_wp2_with fail
        refine (HH.out.2.1 _ H1.out).mono ?_
        rintro e w2 ⟨A4, n4, c4, rfl, hR2, hB2⟩
        have hR2 : Own w2 w1.heap.size (.slice A4 n4 c4) l1 := hR2
        have hn4 : n4 = l1.length := hR2.len
        obtain ⟨g, cg, e1⟩ := hR2.form (by intro e; injection e with _ e2 _; omega)
        injection e1 with e1 e2 e3
        subst e1 e3
        clear e2
        subst hn4
        have yq := hR2.cell q y HH.out.2.2.2.2.1
        have fq := hR2.frozen q
        have hqc : (q : Int) < (c4 : Int) := by have := hR2.rd.2.1; omega
        have hO9 := hR2.set_ q (y ^^^ x) HH.out.2.2.2.2.2
        have hT9 : Turn [g] w2 (w2.setCell ⟨g, q, none⟩ (B (y ^^^ x))) := (Turn.refl _ _).setCell (.inl (by simp)) _
        have hg1 := (hR2.lt (g := g) rfl).1
        have hB9 : Old w (w2.setCell ⟨g, q, none⟩ (B (y ^^^ x))) := below_turn (Old.trans H1.out hB2) hT9 (fun z hz => by
          have h1 : z = g := by simpa using hz
          have h2 := H1.out.size
          omega) (Old.trans H1.out hB2).size
        have hl9 : l1.length = (l1.set q (y ^^^ x)).length := by rw [List.length_set]
        have hR9 := hO9.rd
        obtain ⟨l9, hl⟩ : ∃ l, l1.set q (y ^^^ x) = l := ⟨_, rfl⟩
        rw [hl] at hR9
        have H9 := Lib.hid (And.intro hR9 hB9)
        clear hR2 hB2 hO9 hT9 hB9 hg1 hl9 hR9
        go_wp2_with fail
        refine (HH.out.2.2.1 _ H9.out.2 _ _ _ H9.out.1).mono ?_
        rintro e w4 ⟨q1, rfl, hq1, hB4⟩
        have H4 := Lib.hid (And.intro (H9.out.1.below hB4) (And.intro hq1 (Old.trans H9.out.2 hB4)))
        clear hq1 hB4
        go_wp2_with fail
        refine (HH.out.2.2.2.1 _ H4.out.2.2 _ _ _ H4.out.1).mono ?_
        rintro e w5 ⟨q2, rfl, hq2, hB5⟩
        have hqe : q1 = q2 := Bool.eq_iff_iff.2 (H4.out.2.1.trans hq2.symm)
        subst hqe
        have hqq : (q1 == q1) = true := by simp
        have H5 := Lib.hid (Old.trans H4.out.2.2 hB5)
        clear hq2 hB5
        go_wp2_with fail
        go_ret
        exact ⟨by first | rfl | simp, H5.out⟩
    · have b0 : (r1 != 0) = true := by simpa using e0
      have HH := Lib.hid (And.intro hbe (And.intro hf1 trivial))
      clear hbe hf1 hv hE h1 h2 hK g2 e0
      go_enter Tryd.func6, Tryd.ntmps6
      go_wp2_with fail
      refine HH.out.1.mono ?_
      rintro e w1 ⟨rfl, hB1⟩
      have H1 := Lib.hid hB1
      clear hB1
      go_wp2_with fail
      refine (HS.out _ H1.out).mono ?_
      rintro e w' ⟨rfl, rfl⟩
      go_wp2_with fail
      refine (HH.out.2.1 _ H1.out).mono ?_
      rintro e w2 ⟨A4, n4, c4, rfl, hR2, hB2⟩
      have H2 := Lib.hid (Old.trans H1.out hB2)
      clear hR2 hB2
      go_wp2_with fail
      go_ret
      exact ⟨rfl, H2.out⟩
end Go.Proofs.YtddemlajfbagdaaDoor
namespace Go.Proofs.YtddemlajfbagdaaDoor
set_option maxRecDepth 100000
open Go.RowKit Go.ChangeShapes Go.WideShapes Go.ChangeAt

theorem gK8 : Tryd.prog.globalNamed "bailey/hashes.k" = some 1 := by kernel_rfl
theorem tK8 : (Tryd.prog.globals[1]?).map (·.type) = some 117 := by kernel_rfl
def laidK8 : List (String × DataW Unit) := [("unicode/utf8.acceptRanges", Rows.laid_unicode_utf8_acceptRanges), ("bailey/hashes.k", Rows.laid_bailey_hashes_k), ("unicode/utf8.first", Rows.laid_unicode_utf8_first)]
theorem laid_nums8 : (Rows.laid_bailey_hashes_k : DataW Unit) = .agg (kTab.map fun x => .lit (.int .u64 (x.toNat : Int))) := by kernel_rfl
theorem kat_of_laid8 {W : World} (h : laidMetH Tryd.prog laidK8 W) : KAt W := by
  rw [MakeChecks.laidMetH_plain _ _ _ (by kernel_rfl)] at h
  obtain ⟨ps, ⟨_, _, _, _, _, _, _, _, _, _, ⟨g0, t0, cs0, f0, p0, q0, hg0, ht0, hv0, hd0, _⟩, _⟩, _⟩ := h
  obtain rfl := Option.some.inj (gK8.symm.trans hg0)
  obtain rfl := Option.some.inj (tK8.symm.trans ht0)
  obtain ⟨xs, m1, rfl, hx1, hlen, hn, hel⟩ := DataW.trod_array Tryd.underlying117 hd0
  have c1 : Tryd.prog.cellsOf 78 = 1 := by kernel_rfl
  rw [c1] at hel
  simp only [Prod.mk.injEq] at hx1
  rw [laid_nums8] at hx1
  have hcell := fun j => World.var?_cell hg0 hv0 j
  have key : ∀ i x, kTab[i]? = some x → W.cell? ⟨1, i, none⟩ = some (U64 x) := by
    intro i x hx
    have hi : i < 80 := by rw [← kTab_len]; exact (List.getElem?_eq_some_iff.1 hx).1
    have h1 := hel i hi
    obtain ⟨y, hy⟩ : ∃ y, xs[i]? = some y := ⟨_, List.getElem?_eq_getElem (by omega)⟩
    rw [hy] at h1
    obtain ⟨n, e1, e2, _⟩ := DataW.trod_int Tryd.underlying78 h1
    have hxx : (xs.map (·.1))[i]? = some y.1 := by simp [hy]
    have hn2 : n = (x.toNat : Int) := by
      have e3 := hx1.1
      injection e3 with e3
      rw [← e3, List.getElem?_map, hx] at hxx
      simp only [Option.map_some, Option.some.injEq] at hxx
      rw [e2] at hxx
      simpa using hxx.symm
    subst hn2
    rw [hcell i]
    have e4 := congrArg (fun l => l[0]?) e1
    simp only [List.getElem?_take, List.getElem?_drop] at e4
    simpa [U64] using e4
  refine ⟨?_, key⟩
  have := key 0 _ rfl
  unfold World.cell? at this
  rcases Nat.lt_or_ge 1 W.heap.size with h | h
  · exact h
  · simp [Array.getElem?_eq_none h] at this
theorem door_met8 (os : Os) (args : Array Value) : laidMetH Tryd.prog laidK8 ((World.laidAll Tryd.prog os laidK8).forCall (fun _ _ => 0) ⟨#[], args, []⟩).memory := by
  rw [MakeChecks.laidMetH_plain _ _ _ (by kernel_rfl)]
  exact laidMet_laidAll _ (by kernel_rfl) (by kernel_rfl)
end Go.Proofs.YtddemlajfbagdaaDoor
