/-
  'baileylaw6.ModesForged' returns true: a GCM text, tag or additional data of which one byte is another one is refused. No condition but k in int's range.
-/
import Derived.Test.YtiocmebcbhbcmaaZzMw1
import Derived.Test.YtiocmebcbhbcmaaZzMw1
namespace Go.Proofs.Ytiocmebcbhbcmaa
set_option maxRecDepth 100000
open Go.RowKit

theorem allF_ok5 (k p b : List UInt8) (hk : keyOk k) (hp : gcmOk p) : (allF 5 true k p b).1 = gcmO (encL (rks k) ((rks k).length / 16)) p b ++ gcmT (encL (rks k) ((rks k).length / 16)) p (gcmO (encL (rks k) ((rks k).length / 16)) p b) := by
  have hpar : parOk 5 p := by unfold parOk; exact hp
  have hf : ((PSof 5 true k p).fin b) = (gcmT (encL (rks k) ((rks k).length / 16)) p (gcmO (encL (rks k) ((rks k).length / 16)) p b), 0) := by
    unfold PS.fin
    rw [if_neg (show ¬ (PSof 5 true k p).mode = 4 from (by show ¬ (5 : Nat) = 4; decide)), if_pos (show (PSof 5 true k p).mode = 5 from rfl), if_pos (show (PSof 5 true k p).enc = true from rfl)]
    rfl
  have hfr : (PSof 5 true k p).front b = gcmO (encL (rks k) ((rks k).length / 16)) p b := by
    unfold PS.front
    rw [if_neg (show ¬ (PSof 5 true k p).mode = 4 from (by show ¬ (5 : Nat) = 4; decide)), if_pos (show (PSof 5 true k p).mode = 5 from rfl), if_pos (show (PSof 5 true k p).enc = true from rfl)]
    rfl
  unfold allF
  rw [if_neg (by decide), if_neg (fun h => h hk)]
  show (if ¬ parOk 5 p then (([] : List UInt8), (113 : Int)) else (if ((PSof 5 true k p).fin b).2 = 0 then ((PSof 5 true k p).front b ++ ((PSof 5 true k p).fin b).1, 0) else ([], ((PSof 5 true k p).fin b).2))).1 = _
  rw [if_neg (fun h => h hpar), hf, hfr, if_pos rfl]
theorem gcmOk_set (p : List UInt8) (i : Nat) (x : UInt8) (hi : 1 ≤ i) (h : gcmOk p) : gcmOk (p.set i x) := by
  obtain ⟨h1, h2, h3⟩ := h
  have hg : (p.set i x).getD 0 0 = p.getD 0 0 := by
    rw [List.getD_eq_getElem?_getD, List.getD_eq_getElem?_getD, List.getElem?_set_ne (by omega)]
  exact ⟨by rw [List.length_set]; exact h1, by rw [hg]; exact h2, by rw [hg, List.length_set]; exact h3⟩
theorem allF5_ok (k p b : List UInt8) (h : (allF 5 true k p b).2 = 0) : keyOk k ∧ gcmOk p ∧ 16 ≤ (allF 5 true k p b).1.length := by
  have hb := all_back 5 k p b (fun h => by omega)
  by_cases hk : keyOk k
  · by_cases hp : parOk 5 p
    · have hf := allF_ok5 k p b hk hp
      refine ⟨hk, hp, ?_⟩
      rw [hf, List.length_append]
      unfold gcmT
      have : (tagL (encL (rks k) ((rks k).length / 16)) (p.drop (1 + (p.getD 0 0).toNat)) (gcmO (encL (rks k) ((rks k).length / 16)) p b) (encL (rks k) ((rks k).length / 16) (gcmJ (encL (rks k) ((rks k).length / 16)) p))).length = 16 :=
        tagL_len _ _ _ _ (enc_ne _ _ _ (gcmJ_len _ _ hp) (by have := rks_len k hk; omega))
      omega
    · exfalso
      revert h
      unfold allF
      rw [if_neg (by decide), if_neg (fun h => h hk)]
      show (if ¬ parOk 5 p then (([] : List UInt8), (113 : Int)) else _).2 = 0 → False
      rw [if_pos hp]
      intro h; cases h
  · exfalso
    revert h
    unfold allF
    rw [if_neg (by decide), if_pos hk]
    intro h; cases h
theorem conv_iB (n : Nat) (W : World) (hn : n < 256) : (convert 3 5 (.int .i64 (n : Int))).run Try.prog W = .ok (B (UInt8.ofNat n)) W := by
  rw [conv_int W .u8 Try.underlying3 Try.underlying5, IntWalk.u8_in _ (by omega)]
  have : ((UInt8.ofNat n).toNat : Int) = (n : Int) := by rw [UInt8.toNat_ofNat', Nat.mod_eq_of_lt (by omega)]
  show _ = Result.ok (Value.int .u8 ((UInt8.ofNat n).toNat : Int)) W
  rw [this]
set_option maxHeartbeats 4000000 in
theorem modesForged_any (A P Q C : Option Addr) (ma ca mi ci md cd mb cb : Nat) (k iv aad b : List UInt8) (kk : Int) (x : UInt8) (w : World) (hk : Rd w A ma ca k) (hi : Rd w P mi ci iv) (hd : Rd w Q md cd aad) (hb : Rd w C mb cb b) (hkk : -9223372036854775808 ≤ kk ∧ kk ≤ 9223372036854775807) :
    Calls Try.prog 6 #[.slice A ma ca, .slice P mi ci, .slice Q md cd, .slice C mb cb, .int .i64 kk, B x] w (LawRes w) := by
  have hbeg := mbegun_any w
  have hi2 := hi.short (n := 30)
  have hd2 := hd.short (n := 40)
  have hb2 := hb.short (n := 60)
  have HH := Lib.hid (And.intro hbeg (And.intro hk (And.intro hi (And.intro hd hb))))
  obtain ⟨n1, hn1⟩ : ∃ m, min mi 30 = m := ⟨_, rfl⟩
  obtain ⟨n2, hn2⟩ : ∃ m, min md 40 = m := ⟨_, rfl⟩
  obtain ⟨n3, hn3⟩ : ∃ m, min mb 60 = m := ⟨_, rfl⟩
  obtain ⟨v1, hv1⟩ : ∃ l, iv.take 30 = l := ⟨_, rfl⟩
  obtain ⟨v2, hv2⟩ : ∃ l, aad.take 40 = l := ⟨_, rfl⟩
  obtain ⟨v3, hv3⟩ : ∃ l, b.take 60 = l := ⟨_, rfl⟩
  rw [hn1, hv1] at hi2
  rw [hn2, hv2] at hd2
  rw [hn3, hv3] at hb2
  have b1 : n1 ≤ 30 := by omega
  have b2 : n2 ≤ 40 := by omega
  have b3 : n3 ≤ 60 := by omega
  have HM := Lib.hid (And.intro hn1 (And.intro hn2 hn3))
  have HK := Lib.hid (And.intro hi2 (And.intro hd2 hb2))
  clear hbeg hk hi hd hb hi2 hd2 hb2 hn1 hn2 hn3 hv1 hv2 hv3
  go_enter Try.func6, Try.ntmps6
  go_wp2_with fail
  refine HH.out.1.mono ?_
  rintro e w1 ⟨rfl, hO1⟩
  have H1 := Lib.hid hO1
  clear hO1
  go_wp2_with fail
  refine (short_any P mi ci 30 iv w1 (HH.out.2.2.1.below H1.out) (by omega)).mono ?_
  rintro e w2 ⟨rfl, rfl⟩
  go_wp2_with fail
  refine (short_any Q md cd 40 aad w1 (HH.out.2.2.2.1.below H1.out) (by omega)).mono ?_
  rintro e w2 ⟨rfl, rfl⟩
  go_wp2_with fail
  refine (short_any C mb cb 60 b w1 (HH.out.2.2.2.2.below H1.out) (by omega)).mono ?_
  rintro e w2 ⟨rfl, rfl⟩
  rw [HM.out.1, HM.out.2.1, HM.out.2.2]
  by_cases hz : n1 = 0
  · have hzi : (n1 : Int) = 0 := by omega
    have hzb : ((n1 : Int) == 0) = true := by simpa using hzi
    clear hz
    go_wp2_with fail
    go_ret
    exact ⟨rfl, H1.out⟩
  have hzi : ¬ (n1 : Int) = 0 := by omega
  have hzb : ((n1 : Int) == 0) = false := by simpa using hzi
  by_cases hx0 : isN x 0 = true
  · clear hz
    go_wp2_with fail
    go_ret
    exact ⟨rfl, H1.out⟩
  have hxf : isN x 0 = false := by simpa using hx0
  have hn1p : 0 < n1 := by omega
  have hcv := fun W : World => conv_iB n1 W (by omega)
  obtain ⟨zb, hzb2⟩ : ∃ z, UInt8.ofNat n1 = z := ⟨_, rfl⟩
  have hzn : zb.toNat = n1 := by rw [← hzb2, UInt8.toNat_ofNat', Nat.mod_eq_of_lt (by omega)]
  rw [hzb2] at hcv
  have HZ := Lib.hid hzn
  obtain ⟨ws, hws⟩ : ∃ ws, w1.alloc (.cells #[B zb] 5) = ws := ⟨_, rfl⟩
  have hsg : Own ws w1.heap.size (.slice (some ⟨w1.heap.size, 0, none⟩) 1 1) [zb] := by
    rw [← hws]
    exact Own.of_cells (l := [zb]) (c := 1) (cur := [B zb]) (heap_alloc_new w1 _) (Nat.le_refl _) rfl (by unfold maxLen; omega) (by simp) rfl
  have hBs : Old w1 ws := by rw [← hws]; exact (Old.refl _).alloc _
  have HG := Lib.hid (And.intro hsg (And.intro hBs (HK.out.1.1)))
  have hcv1 := hcv w1
  clear hz hx0 hzb2 hzn hsg hBs hcv
  go_upto_region 6 with (first | (at_builtin; refine wp_app2 (.tmp 40) (.tmp 41) w1.heap.size (.slice (some ⟨w1.heap.size, 0, none⟩) 1 1) [zb] HG.out.1 HG.out.2.1.size P n1 ci v1 ((HK.out.1.below H1.out).below HG.out.2.1) (by have := HG.out.2.2; simp only [List.length_cons, List.length_nil]; omega) rfl rfl rfl rfl ?_; intro A3 m3 c3 w3 hm3 hG3; have H3 := Lib.hid hG3; clear hG3) | (at_builtin; refine wp_app2 (.tmp 42) (.tmp 43) w1.heap.size (.slice A3 m3 c3) _ H3.out.own (Nat.le_trans HG.out.2.1.size H3.out.below.size) Q n2 cd v2 ((HK.out.2.1.below H1.out).below (Below.trans HG.out.2.1 H3.out.below)) (by have := HG.out.2.2; have := HK.out.2.1.1; rw [List.length_append]; simp only [List.length_cons, List.length_nil]; omega) rfl rfl rfl rfl ?_; intro A4 m4 c4 w4 hm4 hG4; have H4 := Lib.hid hG4; clear hG4))
  obtain ⟨pl, hpl⟩ : ∃ l, [zb] ++ v1 ++ v2 = l := ⟨_, rfl⟩
  have hO4 := H4.out.own
  rw [hpl] at hO4
  have hpll : pl.length = 1 + n1 + n2 := by rw [← hpl, List.length_append, List.length_append, ← HK.out.1.1, ← HK.out.2.1.1]; rfl
  have hm4e : m4 = 1 + n1 + n2 := by rw [hO4.len]; exact hpll
  have HP := Lib.hid (And.intro hO4 (And.intro (Below.trans (Below.trans HG.out.2.1 H3.out.below) H4.out.below) (And.intro hpll hm4e)))
  have hm4b : m4 ≤ 71 := by omega
  have hall := allF5_ok k pl v3
  have hab := (all_back 5 k pl v3 (fun h => by omega)).2.2
  obtain ⟨V, hV⟩ : ∃ V, allF 5 true k pl v3 = V := ⟨_, rfl⟩
  rw [hV] at hall hab
  obtain ⟨W5, v5⟩ := V
  simp only at hall hab
  have HV := Lib.hid (And.intro hV (And.intro hall hab))
  clear hpl hO4 hpll hm4e hV hall hab hm3 hm4 hcv1 hws
  go_wp2_with fail
  refine (modesAll_any 5 true A A4 C ma ca m4 c4 n3 cb k pl v3 w4 (HH.out.2.1.below (Old.trans H1.out HP.out.2.1)) HP.out.1.rd (HK.out.2.2.below (Old.trans H1.out HP.out.2.1)) (by omega) (by omega)).mono ?_
  rintro e w5 ⟨A5, m5, c5, rfl, hO5, hB5⟩
  rw [HV.out.1] at hO5
  simp only [HV.out.1]
  have hm5 : m5 ≤ 92 := by have h1 := hO5.len; have h2 := HV.out.2.2; have h3 := HK.out.2.2.1; simp only at h1; omega
  have H5 := Lib.hid (And.intro hO5 hB5)
  clear hO5 hB5
  by_cases hv : v5 = 0
  case neg =>
    have hvb : (v5 != 0) = true := by simpa using hv
    clear hv
    go_wp2_with fail
    go_ret
    exact ⟨rfl, Old.trans (Old.trans H1.out HP.out.2.1) H5.out.2⟩
  subst hv
  obtain ⟨hko, hpo, h16⟩ := HV.out.2.1 (by first | rfl | trivial)
  have h16 : 16 ≤ W5.length := h16
  obtain ⟨g, cz, he⟩ := H5.out.1.form (fun h => by have h1 := H5.out.1.len; injection h with _ h2 _; simp only at h1; omega)
  injection he with he1 he2 he3
  subst he1 he3
  have hw5 : W5.length = m5 := he2.symm
  have hk2 := Lib.hid (And.intro hko (And.intro hpo hw5))
  have hko2 := hk2
  have h16m : 16 ≤ m5 := by omega
  clear he2 hko hpo hw5 h16 hk2
  go_upto_if 56 with fail
  go_cut [4] from 22 to 123 (fun v wx => ∃ K : Nat, v = .int .i64 (K : Int) ∧ (K : Int) ≤ 9223372036854775807 ∧ w5 = wx)
  case first =>
    by_cases hn : kk < 0
    · have hnd : decide (kk < 0) = true := decide_eq_true hn
      obtain ⟨k1, hk1⟩ : ∃ k1, kk + 1 = k1 := ⟨_, rfl⟩
      have hk1w : IntKind.i64.wrap k1 = k1 := IntWalk.i64_in _ (by omega)
      obtain ⟨K, hK⟩ : ∃ K : Nat, -k1 = (K : Int) := ⟨(-k1).toNat, by omega⟩
      have hKw : IntKind.i64.wrap (K : Int) = (K : Int) := IntWalk.i64_in _ (by omega)
      have hKb : (K : Int) ≤ 9223372036854775807 := by omega
      go_wp2_with fail
      go_meet
      case rel => exact ⟨K, rfl, hKb, rfl⟩
    · have hnd : decide (kk < 0) = false := decide_eq_false hn
      obtain ⟨K, hK⟩ : ∃ K : Nat, kk = (K : Int) := ⟨kk.toNat, by omega⟩
      have hKb : (K : Int) ≤ 9223372036854775807 := by omega
      subst hK
      go_wp2_with fail
      go_meet
      case rel => exact ⟨K, rfl, hKb, rfl⟩
  case rest =>
    obtain ⟨K, rfl, hKb, rfl⟩ := hcut
    obtain ⟨L, hL⟩ : ∃ L, m5 + n2 = L := ⟨_, rfl⟩
    have hLi : (m5 : Int) + (n2 : Int) = (L : Int) := by omega
    have hLw : IntKind.i64.wrap (L : Int) = (L : Int) := IntWalk.i64_in _ (by omega)
    have hL0 : ((L : Int) == 0) = false := by simp; omega
    have hL9 : ¬ (L : Int) = 0 := by omega
    obtain ⟨j, hj⟩ : ∃ j, K % L = j := ⟨_, rfl⟩
    have hjL : j < L := by rw [← hj]; exact Nat.mod_lt _ (by omega)
    have hj1 : (K : Int) % (L : Int) = (j : Int) := by rw [← hj]; rfl
    have hj2 : Int.tmod (K : Int) (L : Int) = (j : Int) := by rw [Int.tmod_eq_emod_of_nonneg (by omega)]; exact hj1
    have hjw : IntKind.i64.wrap (j : Int) = (j : Int) := IntWalk.i64_in _ (by omega)
    clear hj
    have HLh := Lib.hid hL
    clear hL
    go_upto_region 13 with fail
    by_cases hjm : j < m5
    · have hjd : decide ((j : Int) < (m5 : Int)) = true := decide_eq_true (by omega)
      have hji : (j : Int) < (m5 : Int) := by omega
      obtain ⟨z, hz⟩ : ∃ z, W5[j]? = some z := ⟨_, List.getElem?_eq_getElem (by rw [hko2.out.2.2]; exact hjm)⟩
      have y0 := H5.out.1.cell j z hz
      have y1 := H5.out.1.frozen j
      have hOs := H5.out.1.set_ j (z ^^^ x) hjm
      have hTs : Turn [g] w5 (w5.setCell ⟨g, j, none⟩ (B (z ^^^ x))) := (Turn.refl _ _).setCell (p := ⟨g, j, none⟩) (.inl (by simp)) _
      have hgw : w4.heap.size ≤ g := H5.out.1.addr_ge _ rfl
      obtain ⟨cl, hcl⟩ : ∃ l, W5.set j (z ^^^ x) = l := ⟨_, rfl⟩
      rw [hcl] at hOs
      obtain ⟨wS, hwS⟩ : ∃ x', w5.setCell ⟨g, j, none⟩ (B (z ^^^ x)) = x' := ⟨_, rfl⟩
      rw [hwS] at hOs hTs
      have hb4 : Rd wS A4 m4 c4 pl := (HP.out.1.rd.below H5.out.2).turn hTs (fun ad e => by have := HP.out.1.rd.lt ad e; simp; omega)
      have hOw : Old w wS := below_turn (Old.trans (Old.trans H1.out HP.out.2.1) H5.out.2) hTs (by intro u hu; cases hu with | head => exact Nat.le_trans (Old.trans H1.out HP.out.2.1).size hgw | tail _ h => cases h) (Old.trans (Old.trans H1.out HP.out.2.1) H5.out.2).size
      have HT := Lib.hid (And.intro hb4 (And.intro hOs.rd hOw))
      have hpoB : gcmOk pl := hko2.out.2.1
      clear hz hOs hTs hgw hcl hb4 hOw
      go_upto_region 17 with fail
      obtain ⟨V2, hV2⟩ : ∃ V, openF (encL (rks k) ((rks k).length / 16)) pl cl = V := ⟨_, rfl⟩
      have hao := allF_open k pl cl hko2.out.1 hpoB
      rw [hV2] at hao
      obtain ⟨W7, v7⟩ := V2
      have HW := Lib.hid (And.intro hV2 (And.intro hao hpoB))
      clear hV2 hao hpoB
      go_wp2_with fail
      refine (rall_open A A4 (some ⟨g, 0, none⟩) ma ca m4 c4 m5 c5 k pl cl wS (HH.out.2.1.below HT.out.2.2) HT.out.1 HT.out.2.1 hko2.out.1 HW.out.2.2 (by omega) (by omega)).mono ?_
      rintro e w8 ⟨A8, m8, c8, rfl, hR8, hB8⟩
      rw [HW.out.1] at hR8
      simp only [HW.out.1]
      have H8 := Lib.hid (And.intro hR8 (And.intro hB8 (Old.trans HT.out.2.2 hB8)))
      clear hR8 hB8
      go_wp2_with fail
      refine (modesAll_any 5 false A A4 (some ⟨g, 0, none⟩) ma ca m4 c4 m5 c5 k pl cl w8 (HH.out.2.1.below H8.out.2.2) (HT.out.1.below H8.out.2.1) (HT.out.2.1.below H8.out.2.1) (by omega) (by omega)).mono ?_
      rintro e w9 ⟨A9, m9, c9, rfl, hO9, hB9⟩
      rw [HW.out.2.1] at hO9
      simp only [HW.out.2.1]
      have s1 := hO9.rd.str
      have s2 := (H8.out.1.below hB9).str
      have H9 := Lib.hid (Old.trans H8.out.2.2 hB9)
      clear hO9 hB9
      go_wp2_with fail
      go_ret
      exact ⟨rfl, H9.out⟩
    · have hjd : decide ((j : Int) < (m5 : Int)) = false := decide_eq_false (by omega)
      have hji : ¬ (j : Int) < (m5 : Int) := by omega
      have hm4e := HP.out.2.2.2
      have hLm := HLh.out
      obtain ⟨a1, ha1⟩ : ∃ a, 1 + n1 = a := ⟨_, rfl⟩
      have ha1i : 1 + (n1 : Int) = (a1 : Int) := by omega
      have ha1w : IntKind.i64.wrap (a1 : Int) = (a1 : Int) := IntWalk.i64_in _ (by omega)
      obtain ⟨a2, ha2⟩ : ∃ a, a1 + j = a := ⟨_, rfl⟩
      have ha2i : (a1 : Int) + (j : Int) = (a2 : Int) := by omega
      have ha2w : IntKind.i64.wrap (a2 : Int) = (a2 : Int) := IntWalk.i64_in _ (by omega)
      obtain ⟨a3, ha3⟩ : ∃ a, a2 - m5 = a := ⟨_, rfl⟩
      have ha3i : (a2 : Int) - (m5 : Int) = (a3 : Int) := by omega
      have ha3w : IntKind.i64.wrap (a3 : Int) = (a3 : Int) := IntWalk.i64_in _ (by omega)
      have ha3m : a3 < m4 := by omega
      have ha3p : 1 ≤ a3 := by omega
      have ha3mi : (a3 : Int) < (m4 : Int) := by omega
      clear ha1 ha2 ha3 hm4e hLm
      go_upto_region 16 with (at_builtin; refine wp_app2 (.const (.slice none 0 0)) (.tmp 81) w5.heap.size (.slice none 0 0) [] (Own.nil _ _) (Nat.le_refl _) A4 m4 c4 pl (HP.out.1.rd.below H5.out.2) (by have := HP.out.2.2.1; simp only [List.length_nil]; omega) rfl rfl rfl rfl ?_; intro A7 m7 c7 w7 hm7 hG7; have H7 := Lib.hid hG7; clear hG7)
      have ho7 : Own w7 w5.heap.size (.slice A7 m7 c7) pl := by have := H7.out.own; rwa [List.nil_append] at this
      have hm7e : m7 = m4 := by rw [ho7.len, HP.out.2.2.1]; exact HP.out.2.2.2.symm
      obtain rfl : m4 = m7 := hm7e.symm
      obtain ⟨g7, cz, he⟩ := ho7.form (fun h => by injection h with _ h2 _; omega)
      injection he with he1 he2 he3
      subst he1 he3
      clear he2
      obtain ⟨z, hz⟩ : ∃ z, pl[a3]? = some z := ⟨_, List.getElem?_eq_getElem (by rw [← ho7.len]; exact ha3m)⟩
      have y0 := ho7.cell a3 z hz
      have y1 := ho7.frozen a3
      have hOs := ho7.set_ a3 (z ^^^ x) ha3m
      have hTs : Turn [g7] w7 (w7.setCell ⟨g7, a3, none⟩ (B (z ^^^ x))) := (Turn.refl _ _).setCell (p := ⟨g7, a3, none⟩) (.inl (by simp)) _
      have hgw : w5.heap.size ≤ g7 := ho7.addr_ge _ rfl
      obtain ⟨bl, hbl⟩ : ∃ l, pl.set a3 (z ^^^ x) = l := ⟨_, rfl⟩
      have hpoB : gcmOk bl := by rw [← hbl]; exact gcmOk_set pl a3 _ ha3p hko2.out.2.1
      rw [hbl] at hOs
      obtain ⟨wS, hwS⟩ : ∃ x', w7.setCell ⟨g7, a3, none⟩ (B (z ^^^ x)) = x' := ⟨_, rfl⟩
      rw [hwS] at hOs hTs
      have hO5w : Old w w5 := Old.trans (Old.trans H1.out HP.out.2.1) H5.out.2
      have hc5 : Rd wS (some ⟨g, 0, none⟩) m5 c5 W5 := (H5.out.1.rd.below H7.out.below).turn hTs (fun ad e => by have := H5.out.1.rd.lt ad e; simp; omega)
      have hOw : Old w wS := below_turn (Old.trans hO5w H7.out.below) hTs (by intro u hu; cases hu with | head => exact Nat.le_trans hO5w.size hgw | tail _ h => cases h) (Old.trans hO5w H7.out.below).size
      have HT := Lib.hid (And.intro hOs.rd (And.intro hc5 hOw))
      clear hz hOs hTs hgw hbl hc5 hOw hO5w ho7 hm7 H7
      go_upto_region 17 with fail
      obtain ⟨V2, hV2⟩ : ∃ V, openF (encL (rks k) ((rks k).length / 16)) bl W5 = V := ⟨_, rfl⟩
      have hao := allF_open k bl W5 hko2.out.1 hpoB
      rw [hV2] at hao
      obtain ⟨W7, v7⟩ := V2
      have HW := Lib.hid (And.intro hV2 (And.intro hao hpoB))
      clear hV2 hao hpoB
      go_wp2_with fail
      refine (rall_open A (some ⟨g7, 0, none⟩) (some ⟨g, 0, none⟩) ma ca m4 c7 m5 c5 k bl W5 wS (HH.out.2.1.below HT.out.2.2) HT.out.1 HT.out.2.1 hko2.out.1 HW.out.2.2 (by omega) (by omega)).mono ?_
      rintro e w8 ⟨A8, m8, c8, rfl, hR8, hB8⟩
      rw [HW.out.1] at hR8
      simp only [HW.out.1]
      have H8 := Lib.hid (And.intro hR8 (And.intro hB8 (Old.trans HT.out.2.2 hB8)))
      clear hR8 hB8
      go_wp2_with fail
      refine (modesAll_any 5 false A (some ⟨g7, 0, none⟩) (some ⟨g, 0, none⟩) ma ca m4 c7 m5 c5 k bl W5 w8 (HH.out.2.1.below H8.out.2.2) (HT.out.1.below H8.out.2.1) (HT.out.2.1.below H8.out.2.1) (by omega) (by omega)).mono ?_
      rintro e w9 ⟨A9, m9, c9, rfl, hO9, hB9⟩
      rw [HW.out.2.1] at hO9
      simp only [HW.out.2.1]
      have s1 := hO9.rd.str
      have s2 := (H8.out.1.below hB9).str
      have H9 := Lib.hid (Old.trans H8.out.2.2 hB9)
      clear hO9 hB9
      go_wp2_with fail
      go_ret
      exact ⟨rfl, H9.out⟩
end Go.Proofs.Ytiocmebcbhbcmaa
