/-
  The reference's attrs and frame.
-/
import Derived.Test.YtmanpfenmamflaaRpcR1
import Derived.Test.YtmanpfenmamflaaRpcE0
import Derived.Deep.DeepCutAuto
namespace Go.Proofs.Ytmanpfenmamflaa
open Go.RowKit

theorem pattr_none {t : Int} {x : List UInt8} (h : t < 0 ∨ 65535 < t ∨ (16384 : Int) < x.length) : pattr (t, x) = none := by
  unfold pattr
  rcases h with h | h | h
  · rw [show pnum t 2 65535 = none from if_pos (.inl h), ocat_none]
  · rw [show pnum t 2 65535 = none from if_pos (.inr h), ocat_none]
  · rw [pbytes_no h, ocat_none2]
theorem pattr_some {t : Int} {x : List UInt8} (h : ¬ (t < 0 ∨ 65535 < t ∨ (16384 : Int) < x.length)) : pattr (t, x) = some (num t.toNat 2 ++ (num x.length 2 ++ x)) := by
  unfold pattr
  show ocat (pnum t 2 65535) (pbytes x 2 16384) = _
  rw [pnum_ok (by omega), pbytes_ok (by omega), ocat_some]
set_option maxHeartbeats 2000000 in
theorem rattrs25_any (A : Option Addr) (m c : Nat) (l : List (Int × List UInt8)) (w : World) (hx : AtsAt w w.heap.size A m l) (hm63 : m ≤ maxLen) :
    Calls Try.prog 27 #[.slice A m c] w (FrRes w (pattrs l)) := by
  unfold maxLen at hm63
  have hml := hx.1
  by_cases hbig : 64 < m
  · have hbi : (64 : Int) < m := by omega
    have hbd : decide ((64 : Int) < m) = true := decide_eq_true hbi
    have hn : pattrs l = none := by unfold pattrs; rw [pnum_no (by omega), ocat_none]
    rw [hn]
    clear hx hml
    go_enter Try.func27, Try.ntmps27
    go_wp2_with fail
    go_ret2
    exact ⟨Below.refl _ _, .inl ⟨rfl, rfl⟩⟩
  · have hbi : ¬ (64 : Int) < m := by omega
    have hbd : decide ((64 : Int) < m) = false := decide_eq_false hbi
    have hpn : pnum (m : Int) 1 64 = some (num m 1) := pnum_ok (by omega)
    have H := Lib.hid (And.intro hx (And.intro hml hpn))
    have hcv : ∀ w : World, (convert 3 5 (.int .i64 (m : Int))).run Try.prog w = .ok (B (UInt8.ofNat m)) w := fun w => by
      rw [conv_int w .u8 Try.underlying3 Try.underlying5]
      unfold B
      rw [UInt8.toNat_ofNat']
      congr 2
    have hcvw := hcv w
    have hl1 : num m 1 = [UInt8.ofNat m] := by
      rw [← numL_all m 1 (by omega) (.inl rfl)]
      show [UInt8.ofNat (m / 256 ^ 0 % 256)] = _
      rw [Nat.pow_zero, Nat.div_one, Nat.mod_eq_of_lt (by omega)]
    clear hx hml hpn hcv
    go_enter Try.func27, Try.ntmps27
    go_wp2_with fail
    have hO0 : Own (w.alloc (.cells #[B (UInt8.ofNat m)] 5)) w.heap.size (.slice (some ⟨w.heap.size, 0, none⟩) 1 1) (num m 1) := own_lit (by rw [hl1]; rfl) (by rw [hl1]; rfl) (by rw [hl1, List.length_singleton]; omega)
    clear hcvw
    go_loopw [4, 5] (fun v kk wr => ∃ k : Nat, k ≤ m ∧ kk = .int .i64 (k : Int) ∧ ∃ A1 n1 c1 bs, v = .slice A1 n1 c1 ∧ Own wr w.heap.size (.slice A1 n1 c1) bs ∧ some bs = ocat (pnum (m : Int) 1 64) (pcat ((l.take k).map pattr)) ∧ Below w.heap.size w wr ∧ bs.length ≤ 1 + k * 20000) (fun _ kk _ => m - (intOf kk).toNat)
    case atStart => exact ⟨0, by omega, rfl, _, _, _, _, rfl, hO0, by rw [List.take_zero, List.map_nil, pcat, ocat_nil, H.out.2.2], (Below.refl _ _).alloc (Nat.le_refl _) _, by rw [hl1, List.length_singleton]; omega⟩
    case round =>
      obtain ⟨k, hk, rfl, A1, n1, c1, bs, rfl, hO, hbs, hB, hlen⟩ := hrel
      clear hO0 hl1
      by_cases hlt : k < m
      · have hlti : (k : Int) < m := by omega
        have hltd : decide ((k : Int) < m) = true := decide_eq_true hlti
        have hk0 : ¬ ((k : Int) < 0) := by omega
        obtain ⟨⟨t, x⟩, htx⟩ : ∃ tx, l[k]? = some tx := ⟨_, List.getElem?_eq_getElem (by have := H.out.2.1; omega)⟩
        obtain ⟨hxl, h2 | ⟨b, off, rfl, h3, h3', h4⟩⟩ := H.out.1.old hB
        · omega
        have helt : ∀ w', Below w.heap.size w w' → w'.cell? ⟨b, off + k * 2, none⟩ = some (.int .i64 t) ∧ w'.cell? ⟨b, off + k * 2 + 1, none⟩ = wr.cell? ⟨b, off + k * 2 + 1, none⟩ := fun w' hb' => by
          obtain ⟨k1, _⟩ := h4 k t x htx
          have e1 := hb'.cell (p := ⟨b, off + k * 2, none⟩) h3
          have e2 := hB.cell (p := ⟨b, off + k * 2, none⟩) h3
          exact ⟨e1.trans (e2.symm.trans k1), (hb'.cell (p := ⟨b, off + k * 2 + 1, none⟩) h3).trans (hB.cell (p := ⟨b, off + k * 2 + 1, none⟩) h3).symm⟩
        obtain ⟨k1, Aj, mj, cj, k2, k3⟩ := h4 k t x htx
        rw [k2] at helt
        have hmj := k3.len
        have hmj63 : (mj : Int) ≤ 9223372036854775807 := by
          rcases k3 with ⟨k3, _⟩ | k3
          · have := k3.2.1; have := k3.2.2.1; unfold maxLen at this; omega
          · omega
        have HX := Lib.hid (And.intro k3 (And.intro htx (And.intro hxl (And.intro helt hmj))))
        have HR := Lib.hid (And.intro hO (And.intro hbs (And.intro hB hlen)))
        have hstep := pcat_step pattr l k (t, x) htx
        have hcut : pattrs l = ocat (ocat (pnum (m : Int) 1 64) (pcat ((l.take (k + 1)).map pattr))) (pcat ((l.drop (k + 1)).map pattr)) := by
          unfold pattrs
          rw [pcat_cut pattr l (k + 1), H.out.2.1, ocat_assoc]
        have HP := Lib.hid (And.intro hstep hcut)
        clear h4 k3 htx hxl helt hO hbs hB hlen hmj hstep hcut
        by_cases hbad : t < 0 ∨ 65535 < t ∨ (16384 : Int) < mj
        · have hnone : pattrs l = none := by
            rw [HP.out.2, HP.out.1, pattr_none (by have := HX.out.2.2.2.2; omega), ocat_none2, ocat_none2, ocat_none]
          rw [hnone]
          rcases Classical.em (t < 0) with t0 | t0
          · have td : decide (t < 0) = true := decide_eq_true t0
            clear hbad
            go_wp2_with fail
            go_ret2
            exact ⟨HR.out.2.2.1, .inl ⟨rfl, rfl⟩⟩
          · have td : decide (t < 0) = false := decide_eq_false t0
            rcases Classical.em (65535 < t) with t1 | t1
            · have te : decide (65535 < t) = true := decide_eq_true t1
              clear hbad
              go_wp2_with fail
              go_ret2
              exact ⟨HR.out.2.2.1, .inl ⟨rfl, rfl⟩⟩
            · have te : decide (65535 < t) = false := decide_eq_false t1
              have t2 : (16384 : Int) < mj := by omega
              have tf : decide ((16384 : Int) < mj) = true := decide_eq_true t2
              clear hbad
              go_wp2_with fail
              go_ret2
              exact ⟨HR.out.2.2.1, .inl ⟨rfl, rfl⟩⟩
        · have t0 : ¬ t < 0 := by omega
          have t1 : ¬ 65535 < t := by omega
          have t2 : ¬ (16384 : Int) < mj := by omega
          have td : decide (t < 0) = false := decide_eq_false t0
          have te : decide (65535 < t) = false := decide_eq_false t1
          have tf : decide ((16384 : Int) < mj) = false := decide_eq_false t2
          obtain ⟨T, rfl⟩ := Int.eq_ofNat_of_zero_le (show 0 ≤ t by omega)
          have hT : T ≤ 65535 := by omega
          have hps := pattr_some (t := (T : Int)) (x := x) (by have := HX.out.2.2.2.2; omega)
          rw [Int.toNat_natCast] at hps
          have HS := Lib.hid hps
          clear hbad hps
          go_wp2_with fail
          refine (rnum_any T 2 wr (by omega) (.inr (.inl rfl))).mono ?_
          rintro e w3 ⟨A3, n3, c3, rfl, hO3, hB3⟩
          have H3 := Lib.hid (And.intro hO3 (And.intro hB3 (HR.out.2.2.1.trans (hB3.mono HR.out.2.2.1.size))))
          clear hO3 hB3
          go_wp2_with (at_builtin; go_must (refine wp_app2 (.tmp 52) (.tmp 53) w.heap.size (.slice A1 n1 c1) bs (HR.out.1.below H3.out.2.1) H3.out.2.2.size A3 n3 c3 (num T 2) H3.out.1.rd (by rw [num_len _ _ (by omega)]; have := HR.out.2.2.2; omega) rfl rfl rfl rfl ?_); intro A4 n4 c4 w4 hi4 hG; have H4 := Lib.hid (And.intro hG (H3.out.2.2.trans hG.below)); clear hG)
          refine (rnum_any mj 2 w4 (by omega) (.inr (.inl rfl))).mono ?_
          rintro e w5 ⟨A5, n5, c5, rfl, hO5, hB5⟩
          have H5 := Lib.hid (And.intro hO5 (And.intro hB5 (H4.out.2.trans (hB5.mono H4.out.2.size))))
          have k5 := (HX.out.2.2.2.1 w5 H5.out.2.2).2
          clear hO5 hB5
          go_upto_region 14 with (at_builtin; go_must (refine wp_app2 (.tmp 57) (.tmp 58) w.heap.size (.slice A4 n4 c4) _ (H4.out.1.own.below H5.out.2.1) H5.out.2.2.size A5 n5 c5 (num mj 2) H5.out.1.rd (by rw [num_len _ _ (by omega), List.length_append, num_len _ _ (by omega)]; have := HR.out.2.2.2; omega) rfl rfl rfl rfl ?_); intro A6 n6 c6 w6 hi6 hG; have H6 := Lib.hid (And.intro hG (H5.out.2.2.trans hG.below)); clear hG)
          have k6 := (HX.out.2.2.2.1 w6 H6.out.2).2
          have hxr : RdB w6 w.heap.size Aj mj cj x := HX.out.1.old ((((H3.out.2.1.mono HR.out.2.2.1.size).trans H4.out.1.below).trans (H5.out.2.1.mono H4.out.2.size)).trans H6.out.1.below)
          have HXr := Lib.hid hxr
          clear hxr
          go_wp2_with (at_builtin; go_must (refine wp_app2E (.tmp 60) (.tmp 65) w.heap.size (.slice A6 n6 c6) _ H6.out.1.own H6.out.2.size Aj mj cj x HXr.out.e (by have := HX.out.2.2.2.2; have := HR.out.2.2.2; rw [List.length_append, List.length_append, num_len _ _ (by omega), num_len _ _ (by omega)]; omega) rfl rfl rfl rfl ?_); intro A7 n7 c7 w7 hi7 hG; have H7 := Lib.hid (And.intro hG (H6.out.2.trans hG.below)); clear hG)
          go_roundw
          case measure => simp [intOf]; omega
          refine ⟨k + 1, by omega, by simp, A7, n7, c7, _, rfl, H7.out.1.own, ?_, H7.out.2, ?_⟩
          · rw [HP.out.1, HS.out, ← ocat_assoc, ← HR.out.2.1, ocat_some, ← HX.out.2.2.2.2, List.append_assoc, List.append_assoc]
          · have := HX.out.2.2.2.2
            have := HR.out.2.2.2
            rw [List.length_append, List.length_append, List.length_append, num_len _ _ (by omega), num_len _ _ (by omega)]
            omega
      · obtain rfl : k = m := by omega
        have hlti : ¬ (k : Int) < k := by omega
        have HR := Lib.hid (And.intro hO (And.intro hbs (And.intro hB hlen)))
        clear hO hbs hB hlen
        go_wp2_with fail
        go_ret2
        refine ⟨HR.out.2.2.1, .inr ⟨bs, ?_, A1, n1, c1, rfl, HR.out.1⟩⟩
        unfold pattrs
        rw [HR.out.2.1, List.take_of_length_le (by have := H.out.2.1; omega), H.out.2.1]
end Go.Proofs.Ytmanpfenmamflaa
