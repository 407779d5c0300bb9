/-
  Modes, the document's answer: All in CBC with padding, opening; All in every mode.
  'baileylaw6.ModesCMAC' returns true: the MAC is SP 800-38B's. No condition.
  'baileylaw6.ModesBack' returns true: decrypting undoes encrypting, in every mode. No condition.
  'baileylaw6.ModesAll' returns true: all at once every mode is the document's, in both directions, and what is wrong is refused as said. No condition.
-/
import Derived.Test.YtiocmebcbhbcmaaZzMr15
import Derived.Test.YtiocmebcbhbcmaaZzMb1
import Derived.Test.YtiocmebcbhbcmaaZzMr6
import Derived.Test.YtiocmebcbhbcmaaZzMo12
namespace Go.Proofs.Ytiocmebcbhbcmaa
set_option maxRecDepth 100000
open Go.RowKit

theorem runpad_cut (A C : Option Addr) (nx cx n cb : Nat) (x b : List UInt8) (w : World) (hx : Rd w A nx cx x) (hb : Rd w C n cb b) (hnx : nx = n / 16 * 16) (hn : n ≤ 40000) :
    Calls Try.prog 35 #[.slice A nx cx, .slice C n cb] w (RvAt w A cx (cutP n x)) := by
  unfold cutP
  by_cases h : n = 0 ∨ n % 16 ≠ 0
  · rw [if_pos h]
    exact runpad_short A C nx cx n cb x b w hx hb (by omega) hn h
  · rw [if_neg h]
    obtain rfl : nx = n := by omega
    exact runpad_any A C nx cx cb x b w hx hb hn (by omega) (by omega)
set_option maxHeartbeats 4000000 in
theorem ralln_unpad (A P C : Option Addr) (mk ck cp n cb : Nat) (k p b : List UInt8) (w : World) (hk : Rd w A mk ck k) (hp : Rd w P 16 cp p) (hb : Rd w C n cb b) (hko : keyOk k) (hn : n ≤ 40000) :
    Calls Try.prog 15 #[.int .i64 3, .bool false, .slice A mk ck, .slice P 16 cp, .slice C n cb] w (RvNew w (cutP n (blkN 2 false (encL (rks k) ((rks k).length / 16)) (decL (rks k) ((rks k).length / 16)) (n / 16) p b).1)) := by
  have hcall := rnew_any A mk ck k w hk hko
  have hpl := hp.1.symm
  have hlen : (blkN 2 false (encL (rks k) ((rks k).length / 16)) (decL (rks k) ((rks k).length / 16)) (n / 16) p b).1.length = n / 16 * 16 := by
    have h1 := rks_len k hko
    have h2 : (rks k).length / 16 = k.length / 4 + 7 := by rw [h1]; omega
    have hDl : ∀ l, l.length = 16 → (decL (rks k) ((rks k).length / 16) l).length = 16 := fun l hl => by
      rw [h2]
      exact dec_ne _ _ l hl h1 (by omega)
    have h3 := (blkN_lenD (encL (rks k) ((rks k).length / 16)) _ hDl (n / 16) p b hpl (by have := hb.1; omega)).1
    rw [h3]
    omega
  obtain ⟨TG, hTG⟩ : ∃ T, (blkN 2 false (encL (rks k) ((rks k).length / 16)) (decL (rks k) ((rks k).length / 16)) (n / 16) p b).1 = T := ⟨_, rfl⟩
  rw [hTG] at hlen ⊢
  have hcb := le_R16 hb
  obtain ⟨q, hq⟩ : ∃ q, n / 16 = q := ⟨_, rfl⟩
  have hq1 : Int.tdiv (n : Int) 16 = (q : Int) := by rw [Int.tdiv_eq_ediv_of_nonneg (by omega)]; omega
  have hq2 : (n : Int) / 16 = (q : Int) := by omega
  obtain ⟨n5, hn5⟩ : ∃ n5, q * 16 = n5 := ⟨_, rfl⟩
  have hn5i : (q : Int) * 16 = (n5 : Int) := by omega
  have hn5w : IntKind.i64.wrap (n5 : Int) = (n5 : Int) := IntWalk.i64_in _ (by omega)
  have hsl := slice_to C n cb n5 hb.spot (by omega)
  have hfr := hb.front (k := n5) (by omega)
  have hbl := hb.1
  have hsame : blkN 2 false (encL (rks k) ((rks k).length / 16)) (decL (rks k) ((rks k).length / 16)) (n / 16) p b = blkN 2 false (encL (rks k) ((rks k).length / 16)) (decL (rks k) ((rks k).length / 16)) (n5 / 16) p (b.take n5) := by
    rw [show n5 / 16 = n / 16 by omega]
    conv => lhs; rw [← List.take_append_drop n5 b]
    exact blkN_front 2 false _ _ (n / 16) p (b.take n5) (b.drop n5) (by rw [List.length_take]; omega)
  rw [hsame] at hTG
  have hn5b : n5 ≤ n := by omega
  have HH := Lib.hid (And.intro hcall (And.intro hp (And.intro hfr (And.intro hTG (And.intro hb (And.intro hlen (And.intro hq hn5)))))))
  clear hcall hp hb hk hTG hq hn5 hfr hbl hsame hpl hlen
  by_cases h16 : n5 = n
  · have he : ((n5 : Int) == (n : Int)) = true := by simp; omega
    clear h16
    go_enter Try.func15, Try.ntmps15
    go_wp2_with fail
    refine HH.out.1.mono ?_
    rintro e w1 ⟨c, kb, R, cap, g1, g2, rfl, hC, hB⟩
    have hR : (rks k).length / 16 = R := by have : (rks k).length = 16 * R := hC.2.2.1; omega
    have hTG := HH.out.2.2.2.1
    rw [hR] at hTG
    have hen := REn.of hC
    obtain ⟨E, hE⟩ : ∃ E, encL (rks k) R = E := ⟨_, rfl⟩
    obtain ⟨D, hD⟩ : ∃ D, decL (rks k) R = D := ⟨_, rfl⟩
    rw [hE, hD] at hen hTG
    have H1 := Lib.hid (And.intro hen (And.intro hB hTG))
    clear hC hen hE hD hR hB hko hTG
    go_wp2_with (first | (go_at_call 34; refine (rcbc_any c _ E D P C cp n5 cb p (b.take n5) w1 H1.out.1 (HH.out.2.1.below H1.out.2.1) (HH.out.2.2.1.below H1.out.2.1) (by omega)).mono ?_; rintro e w4 ⟨A4, n4, c4, rfl, hO4, hB4⟩; rw [H1.out.2.2] at hO4; have H4 := Lib.hid (And.intro hO4 (And.intro hB4 (show n4 = n / 16 * 16 from by have h1 := hO4.len; rw [HH.out.2.2.2.2.2.1] at h1; exact h1))); have HA4 := Lib.hid (hO4.addr_ge); clear hO4 hB4) | (go_at_call 35; refine (runpad_cut A4 C n4 c4 n cb TG b w4 H4.out.1.rd ((HH.out.2.2.2.2.1.below H1.out.2.1).below H4.out.2.1) H4.out.2.2 hn).mono ?_; rintro e w5 ⟨n5', rfl, hR5, hB5⟩; have H5 := Lib.hid (And.intro hR5 hB5); clear hR5 hB5))
    refine bodyPost_ret (results_tmp2 rfl _ _ _) rfl ?_
    exact ⟨_, _, _, rfl, H5.out.1, fun ad e => (by have h1 := HA4.out ad e; have h2 := H1.out.2.1.size; omega), Old.trans (Old.trans H1.out.2.1 H4.out.2.1) H5.out.2⟩
  · have he : ((n5 : Int) == (n : Int)) = false := by simp; omega
    clear h16
    go_enter Try.func15, Try.ntmps15
    go_wp2_with fail
    refine HH.out.1.mono ?_
    rintro e w1 ⟨c, kb, R, cap, g1, g2, rfl, hC, hB⟩
    have hR : (rks k).length / 16 = R := by have : (rks k).length = 16 * R := hC.2.2.1; omega
    have hTG := HH.out.2.2.2.1
    rw [hR] at hTG
    have hen := REn.of hC
    obtain ⟨E, hE⟩ : ∃ E, encL (rks k) R = E := ⟨_, rfl⟩
    obtain ⟨D, hD⟩ : ∃ D, decL (rks k) R = D := ⟨_, rfl⟩
    rw [hE, hD] at hen hTG
    have H1 := Lib.hid (And.intro hen (And.intro hB hTG))
    clear hC hen hE hD hR hB hko hTG
    go_wp2_with (first | (go_at_call 34; refine (rcbc_any c _ E D P C cp n5 cb p (b.take n5) w1 H1.out.1 (HH.out.2.1.below H1.out.2.1) (HH.out.2.2.1.below H1.out.2.1) (by omega)).mono ?_; rintro e w4 ⟨A4, n4, c4, rfl, hO4, hB4⟩; rw [H1.out.2.2] at hO4; have H4 := Lib.hid (And.intro hO4 (And.intro hB4 (show n4 = n / 16 * 16 from by have h1 := hO4.len; rw [HH.out.2.2.2.2.2.1] at h1; exact h1))); have HA4 := Lib.hid (hO4.addr_ge); clear hO4 hB4) | (go_at_call 35; refine (runpad_cut A4 C n4 c4 n cb TG b w4 H4.out.1.rd ((HH.out.2.2.2.2.1.below H1.out.2.1).below H4.out.2.1) H4.out.2.2 hn).mono ?_; rintro e w5 ⟨n5', rfl, hR5, hB5⟩; have H5 := Lib.hid (And.intro hR5 hB5); clear hR5 hB5))
    refine bodyPost_ret (results_tmp2 rfl _ _ _) rfl ?_
    exact ⟨_, _, _, rfl, H5.out.1, fun ad e => (by have h1 := HA4.out ad e; have h2 := H1.out.2.1.size; omega), Old.trans (Old.trans H1.out.2.1 H4.out.2.1) H5.out.2⟩
theorem ralln_any (mode : Nat) (enc : Bool) (A P C : Option Addr) (mk ck mp cp n cb : Nat) (k p b : List UInt8) (w : World) (hk : Rd w A mk ck k) (hp : Rd w P mp cp p) (hb : Rd w C n cb b) (hko : keyOk k) (hpo : parOk mode p) (h1 : 1 ≤ mode) (h5 : mode ≤ 5) (hmp : mp ≤ 40000) (hn : n ≤ 40000) :
    Calls Try.prog 15 #[.int .i64 (mode : Int), .bool enc, .slice A mk ck, .slice P mp cp, .slice C n cb] w (RvNew w (refM mode enc (encL (rks k) ((rks k).length / 16)) (decL (rks k) ((rks k).length / 16)) p b)) := by
  have hmode : mode = 1 ∨ mode = 2 ∨ mode = 3 ∨ mode = 4 ∨ mode = 5 := by omega
  have hbl := hb.1
  have hpl := hp.1
  rcases hmode with rfl | rfl | rfl | rfl | rfl
  · have h := ralln_ecb enc A P C mk ck mp cp n cb k p b w hk hb hko hn
    rw [hbl] at h ⊢
    exact h
  · have hp16 : p.length = 16 := hpo
    obtain rfl : mp = 16 := by omega
    have h := ralln_cbc enc A P C mk ck cp n cb k p b w hk hp hb hko hn
    rw [hbl] at h ⊢
    exact h
  · have hp16 : p.length = 16 := hpo
    obtain rfl : mp = 16 := by omega
    cases enc
    · have h := ralln_unpad A P C mk ck cp n cb k p b w hk hp hb hko hn
      rw [hbl] at h ⊢
      exact h
    · have h := ralln_pad A P C mk ck cp n cb k p b w hk hp hb hko hn
      rw [hbl] at h ⊢
      exact h
  · have hp17 : p.length = 17 ∧ 1 ≤ (p.getD 0 0).toNat ∧ (p.getD 0 0).toNat ≤ 128 := hpo
    obtain rfl : mp = 17 := by omega
    exact ralln_ctr enc A P C mk ck cp n cb k p b w hk hp hb hko hp17.2.2 hn
  · have hg : gcmOk p := hpo
    cases enc
    · exact ralln_open A P C mk ck mp cp n cb k p b w hk hp hb hko hg hmp hn
    · exact ralln_seal A P C mk ck mp cp n cb k p b w hk hp hb hko hg hmp hn
theorem rall_any (mode : Nat) (enc : Bool) (A P C : Option Addr) (mk ck mp cp n cb : Nat) (k p b : List UInt8) (w : World) (hk : Rd w A mk ck k) (hp : Rd w P mp cp p) (hb : Rd w C n cb b) (hko : keyOk k) (hpo : parOk mode p) (h1 : 1 ≤ mode) (h5 : mode ≤ 5) (hmp : mp ≤ 40000) (hn : n ≤ 40000) :
    Calls Try.prog 15 #[.int .i64 (mode : Int), .bool enc, .slice A mk ck, .slice P mp cp, .slice C n cb] w (RvRes w (refM mode enc (encL (rks k) ((rks k).length / 16)) (decL (rks k) ((rks k).length / 16)) p b)) := (ralln_any mode enc A P C mk ck mp cp n cb k p b w hk hp hb hko hpo h1 h5 hmp hn).mono fun _ _ h => h.res
end Go.Proofs.Ytiocmebcbhbcmaa
namespace Go.Proofs.Ytiocmebcbhbcmaa
set_option maxRecDepth 100000
open Go.RowKit

def macF (k b : List UInt8) : List UInt8 := if keyOk k then cmacF (encL (rks k) ((rks k).length / 16)) b else []
theorem cmac_res (A C : Option Addr) (mk ck n cb : Nat) (k b : List UInt8) (w : World) (hk : Rd w A mk ck k) (hb : Rd w C n cb b) (hn : n ≤ 90000) :
    Calls Try.prog 22 #[.slice A mk ck, .slice C n cb] w fun e w' => ∃ A' n' c', e = .returned (.slice A' n' c') ∧ Rd w' A' n' c' (macF k b) ∧ Old w w' := by
  unfold macF
  by_cases h : keyOk k
  · rw [if_pos h]
    refine (cmac_any A C mk ck n cb k b w hk hb h hn).mono ?_
    rintro e w' ⟨g, rfl, h1, h2⟩
    exact ⟨_, _, _, rfl, h1, h2⟩
  · rw [if_neg h]
    have hl := hk.1
    refine (cmac_no A C mk ck n cb w (by unfold keyOk at h; omega)).mono ?_
    rintro e w' ⟨rfl, rfl⟩
    exact ⟨_, _, _, rfl, Rd.nil _, Old.refl _⟩
theorem rcmac_res (A C : Option Addr) (mk ck n cb : Nat) (k b : List UInt8) (w : World) (hk : Rd w A mk ck k) (hb : Rd w C n cb b) (hn : n ≤ 90000) :
    Calls Try.prog 23 #[.slice A mk ck, .slice C n cb] w fun e w' => ∃ A' n' c', e = .returned (.slice A' n' c') ∧ Rd w' A' n' c' (macF k b) ∧ Old w w' := by
  unfold macF
  by_cases h : keyOk k
  · rw [if_pos h]
    refine (rcmac_any A C mk ck n cb k b w hk hb h hn).mono ?_
    rintro e w' ⟨A', c', rfl, h1, h2⟩
    exact ⟨_, _, _, rfl, h1, h2⟩
  · rw [if_neg h]
    have hl := hk.1
    refine (rcmac_no A C mk ck n cb w (by unfold keyOk at h; omega)).mono ?_
    rintro e w' ⟨rfl, rfl⟩
    exact ⟨_, _, _, rfl, Rd.nil _, Old.refl _⟩
set_option maxHeartbeats 2000000 in
theorem modesCMAC_any (A C : Option Addr) (ma ca mb cb : Nat) (k b : List UInt8) (w : World) (hk : Rd w A ma ca k) (hb : Rd w C mb cb b) :
    Calls Try.prog 7 #[.slice A ma ca, .slice C mb cb] w (LawRes w) := by
  have hbeg := mbegun_any w
  have hk2 := hk.short (n := 40)
  have hb2 := hb.short (n := 100)
  have HH := Lib.hid (And.intro hbeg (And.intro hk2 (And.intro hb2 (And.intro hk hb))))
  obtain ⟨m1, hm1⟩ : ∃ m, min ma 40 = m := ⟨_, rfl⟩
  obtain ⟨m2, hm2⟩ : ∃ m, min mb 100 = m := ⟨_, rfl⟩
  obtain ⟨k1, hk1⟩ : ∃ k1, k.take 40 = k1 := ⟨_, rfl⟩
  obtain ⟨b1, hb1⟩ : ∃ b1, b.take 100 = b1 := ⟨_, rfl⟩
  rw [hm1, hk1] at hk2
  rw [hm2, hb1] at hb2
  have hm2b : m2 ≤ 100 := by omega
  have HM := Lib.hid (And.intro hm1 hm2)
  have HK := Lib.hid (And.intro hk2 hb2)
  clear hbeg hk hb hk2 hb2 hm1 hm2 hk1 hb1
  go_enter Try.func7, Try.ntmps7
  go_wp2_with fail
  refine HH.out.1.mono ?_
  rintro e w1 ⟨rfl, hO1⟩
  have H1 := Lib.hid hO1
  clear hO1
  go_wp2_with fail
  refine (short_any A ma ca 40 k w1 (HH.out.2.2.2.1.below H1.out) (by omega)).mono ?_
  rintro e w2 ⟨rfl, rfl⟩
  go_wp2_with fail
  refine (short_any C mb cb 100 b w1 (HH.out.2.2.2.2.below H1.out) (by omega)).mono ?_
  rintro e w3 ⟨rfl, rfl⟩
  rw [HM.out.1, HM.out.2]
  go_upto_region 3 with fail
  refine region_old (by kernel_rfl) (fun wd hHeld hSz => ?_)
  have HSz := Lib.hid hSz
  clear hSz
  have hOd := hHeld
  refine takeL (i := 0) (v := ?_) rfl (by kernel_rfl) (by kernel_rfl) (by kernel_rfl) (fun _ _ _ h => h) (Or.inl ⟨by rfl, ?_⟩) hHeld ?_
  rotate_left
  focus (intro wq hSw; clear hSw; go_simp; try with_reducible rfl)
  try simp only [Act.put, List.setIfInBounds_toArray, List.set_cons_zero, List.set_cons_succ]
  refine takeL (i := 1) (v := ?_) rfl (by kernel_rfl) (by kernel_rfl) (by kernel_rfl) (fun _ _ _ h => h) (Or.inl ⟨by rfl, ?_⟩) hHeld ?_
  rotate_left
  focus (intro wq hSw; clear hSw; go_simp; try with_reducible rfl)
  try simp only [Act.put, List.setIfInBounds_toArray, List.set_cons_zero, List.set_cons_succ]
  refine takeL (i := 2) (v := ?_) rfl (by kernel_rfl) (by kernel_rfl) (by kernel_rfl) (fun _ _ _ h => h) (Or.inl ⟨by rfl, ?_⟩) hHeld ?_
  rotate_left
  focus (intro wq hSw; clear hSw; go_simp; try with_reducible rfl)
  try simp only [Act.put, List.setIfInBounds_toArray, List.set_cons_zero, List.set_cons_succ]
  refine takeL (i := 3) (v := ?_) rfl (by kernel_rfl) (by kernel_rfl) (by kernel_rfl) (fun _ _ _ h => h) (Or.inl ⟨by rfl, ?_⟩) hHeld ?_
  rotate_left
  focus (intro wq hSw; clear hSw; go_simp; try with_reducible rfl)
  try simp only [Act.put, List.setIfInBounds_toArray, List.set_cons_zero, List.set_cons_succ]
  refine takeL (i := 6) (v := ?_) rfl (by kernel_rfl) (by kernel_rfl) (by kernel_rfl) (fun _ _ _ h => h) (Or.inl ⟨by rfl, ?_⟩) hHeld ?_
  rotate_left
  focus (intro wq hSw; clear hSw; go_simp; try with_reducible rfl)
  try simp only [Act.put, List.setIfInBounds_toArray, List.set_cons_zero, List.set_cons_succ]
  refine takeL (i := 7) (v := ?_) rfl (by kernel_rfl) (by kernel_rfl) (by kernel_rfl) (fun _ _ _ h => h) (Or.inl ⟨by rfl, ?_⟩) hHeld ?_
  rotate_left
  focus (intro wq hSw; clear hSw; go_simp; try with_reducible rfl)
  try simp only [Act.put, List.setIfInBounds_toArray, List.set_cons_zero, List.set_cons_succ]
  refine wpAnyH_ready (rs := [4]) (by kernel_rfl) (by simp) ?_
  refine consL rfl (fun K hK => ?_) AllReadyH.nil
  go_simp
  refine (cmac_res A C m1 ca m2 cb k1 b1 wd ((HK.out.1.below H1.out).below hOd) ((HK.out.2.below H1.out).below hOd) (by omega)).mono ?_
  rintro e w4 ⟨A4, n4, c4, rfl, hR4, hO4⟩
  refine hK.out _ _ (hHeld.trans hO4) (fun hHeld => ?_)
  clear hK K
  try simp only [Act.put, List.setIfInBounds_toArray, List.set_cons_zero, List.set_cons_succ]
  refine wpAnyH_old (w1 := w4) (hOd.trans hO4) (fun hHeld => ?_) (Old.refl w4)
  refine takeL (i := 5) (v := ?_) rfl (by kernel_rfl) (by kernel_rfl) (by kernel_rfl) (fun _ _ _ h => h) (Or.inl ⟨by rfl, ?_⟩) hHeld ?_
  rotate_left
  focus (intro wq hSw; have hRun := hR4.str_below hSw; clear hSw; go_simp; try with_reducible rfl)
  try simp only [Act.put, List.setIfInBounds_toArray, List.set_cons_zero, List.set_cons_succ]
  refine wpAnyH_ready (rs := [8]) (by kernel_rfl) (by simp) ?_
  refine consL rfl (fun K hK => ?_) AllReadyH.nil
  go_simp
  refine (rcmac_res A C m1 ca m2 cb k1 b1 w4 (((HK.out.1.below H1.out).below hOd).below hO4) (((HK.out.2.below H1.out).below hOd).below hO4) (by omega)).mono ?_
  rintro e w8 ⟨A8, n8, c8, rfl, hR8, hO8⟩
  refine hK.out _ _ hO8 (fun hHeld => ?_)
  clear hK K
  try simp only [Act.put, List.setIfInBounds_toArray, List.set_cons_zero, List.set_cons_succ]
  refine wpAnyH_old (w1 := w8) hO8 (fun hHeld => ?_) (Old.refl w8)
  refine takeL (i := 9) (v := ?_) rfl (by kernel_rfl) (by kernel_rfl) (by kernel_rfl) (fun _ _ _ h => h) (Or.inl ⟨by rfl, ?_⟩) hHeld ?_
  rotate_left
  focus (intro wq hSw; have hRun := hR8.str_below hSw; clear hSw; go_simp; try with_reducible rfl)
  try simp only [Act.put, List.setIfInBounds_toArray, List.set_cons_zero, List.set_cons_succ]
  refine takeL (i := 10) (v := ?_) rfl (by kernel_rfl) (by kernel_rfl) (by kernel_rfl) (fun _ _ _ h => h) (Or.inl ⟨by rfl, ?_⟩) hHeld ?_
  rotate_left
  focus (intro wq hSw; clear hSw; go_simp; try with_reducible rfl)
  try simp only [Act.put, List.setIfInBounds_toArray, List.set_cons_zero, List.set_cons_succ]
  refine takeL (i := 11) (v := ?_) rfl (by kernel_rfl) (by kernel_rfl) (by kernel_rfl) (fun _ _ _ h => h) (Or.inl ⟨by rfl, ?_⟩) hHeld ?_
  rotate_left
  focus (intro wq hSw; clear hSw; go_simp; try with_reducible rfl)
  try simp only [Act.put, List.setIfInBounds_toArray, List.set_cons_zero, List.set_cons_succ]
  refine takeL (i := 12) (v := ?_) rfl (by kernel_rfl) (by kernel_rfl) (by kernel_rfl) (fun _ _ _ h => h) (Or.inl ⟨by rfl, ?_⟩) hHeld ?_
  rotate_left
  focus (intro wq hSw; clear hSw; go_simp; try with_reducible rfl)
  try simp only [Act.put, List.setIfInBounds_toArray, List.set_cons_zero, List.set_cons_succ]
  refine wpAnyH_done (by kernel_rfl) ?_ _
  refine NoPanic.normal ?_
  have HO := Lib.hid ((H1.out.trans (hOd.trans hO4)).trans hO8)
  clear hOd hHeld hO4 hO8 hR4 hR8
  try simp only [Exit.then]
  try go_at_K
  go_wp2_with fail
  go_ret
  exact ⟨rfl, HO.out⟩
end Go.Proofs.Ytiocmebcbhbcmaa
namespace Go.Proofs.Ytiocmebcbhbcmaa
set_option maxRecDepth 100000
open Go.RowKit

set_option maxHeartbeats 4000000 in
theorem modesBack_any (mode : Int) (A P B : Option Addr) (ma ca mp cp mb cb : Nat) (k p b : List UInt8) (w : World) (hk : Rd w A ma ca k) (hp : Rd w P mp cp p) (hb : Rd w B mb cb b) :
    Calls Try.prog 5 #[.int .i64 mode, .slice A ma ca, .slice P mp cp, .slice B mb cb] w (LawRes w) := by
  have hbeg := mbegun_any w
  have hp2 := hp.short (n := 300)
  have hb2 := hb.short (n := 150)
  have HH := Lib.hid (And.intro hbeg (And.intro hk (And.intro hp hb)))
  obtain ⟨m1, hm1⟩ : ∃ m, min mp 300 = m := ⟨_, rfl⟩
  obtain ⟨m2, hm2⟩ : ∃ m, min mb 150 = m := ⟨_, rfl⟩
  obtain ⟨p1, hp1⟩ : ∃ p1, p.take 300 = p1 := ⟨_, rfl⟩
  obtain ⟨b1, hb1⟩ : ∃ b1, b.take 150 = b1 := ⟨_, rfl⟩
  rw [hm1, hp1] at hp2
  rw [hm2, hb1] at hb2
  have hm1b : m1 ≤ 300 := by omega
  have hm2b : m2 ≤ 150 := by omega
  have HM := Lib.hid (And.intro hm1 hm2)
  have HK := Lib.hid (And.intro hp2 hb2)
  clear hbeg hk hp hb hp2 hb2 hm1 hm2 hp1 hb1
  go_enter Try.func5, Try.ntmps5
  go_wp2_with fail
  refine HH.out.1.mono ?_
  rintro e w1 ⟨rfl, hO1⟩
  have H1 := Lib.hid hO1
  clear hO1
  go_wp2_with fail
  refine (short_any P mp cp 300 p w1 (HH.out.2.2.1.below H1.out) (by omega)).mono ?_
  rintro e w2 ⟨rfl, rfl⟩
  go_wp2_with fail
  refine (short_any B mb cb 150 b w1 (HH.out.2.2.2.below H1.out) (by omega)).mono ?_
  rintro e w3 ⟨rfl, rfl⟩
  rw [HM.out.1, HM.out.2]
  go_upto_region 3 with fail
  by_cases hc : mode = 1 ∨ mode = 2
  · obtain ⟨q, hq⟩ : ∃ q, m2 / 16 = q := ⟨_, rfl⟩
    have hq1 : Int.tdiv (m2 : Int) 16 = (q : Int) := by rw [Int.tdiv_eq_ediv_of_nonneg (by omega)]; omega
    have hq2 : (m2 : Int) / 16 = (q : Int) := by omega
    obtain ⟨n5, hn5⟩ : ∃ n5, q * 16 = n5 := ⟨_, rfl⟩
    have hn5i : (q : Int) * 16 = (n5 : Int) := by omega
    have hn5w : IntKind.i64.wrap (n5 : Int) = (n5 : Int) := IntWalk.i64_in _ (by omega)
    have hcb := HK.out.2.2.1
    have hsl := slice_to B m2 cb n5 HK.out.2.spot (by omega)
    obtain ⟨b5, hb5⟩ : ∃ b5, b1.take n5 = b5 := ⟨_, rfl⟩
    have hr5 := HK.out.2.front (k := n5) (by omega)
    rw [hb5] at hr5
    have hdiv : mode = 1 ∨ mode = 2 → b5.length % 16 = 0 := fun _ => by rw [← hr5.1]; omega
    have hn5b : n5 ≤ 150 := by omega
    have H5 := Lib.hid (And.intro hr5 hdiv)
    clear hq hn5 hb5 hr5 hdiv hcb
    rcases hc with rfl | rfl
    · go_upto_region 5 with fail
      obtain ⟨V, hV⟩ : ∃ V, allF 1 true k p1 b5 = V := ⟨_, rfl⟩
      have hall := all_back 1 k p1 b5 H5.out.2
      rw [hV] at hall
      obtain ⟨W4, v4⟩ := V
      simp only at hall
      have HV := Lib.hid (And.intro hV hall)
      clear hV hall
      go_wp2_with fail
      refine (modesAll_any 1 true A P B ma ca m1 cp n5 cb k p1 b5 w1 (HH.out.2.1.below H1.out) (HK.out.1.below H1.out) (H5.out.1.below H1.out) (by omega) (by omega)).mono ?_
      rintro e w4 ⟨A4, n4, c4, rfl, hO4, hB4⟩
      rw [HV.out.1] at hO4
      simp only [HV.out.1]
      have hn4 : n4 ≤ 100000 := by have h1 := hO4.len; have h2 := HV.out.2.2.2; have h3 := H5.out.1.1; simp only at h1; omega
      have H4 := Lib.hid (And.intro hO4.rd (H1.out.trans hB4))
      clear hO4 hB4
      by_cases hv : v4 = 0
      · subst hv
        go_wp2_with fail
        refine (modesAll_any 1 false A P A4 ma ca m1 cp n4 c4 k p1 W4 w4 (HH.out.2.1.below H4.out.2) (HK.out.1.below H4.out.2) H4.out.1 (by omega) hn4).mono ?_
        rintro e w6 ⟨A6, n6, c6, rfl, hO6, hB6⟩
        have hbk := HV.out.2.2.1 (by first | rfl | trivial)
        rw [hbk] at hO6
        have HB := Lib.hid hbk
        clear hbk
        simp only [HB.out]
        have s5 := hO6.rd.str
        have s6 := (H5.out.1.below (H4.out.2.trans hB6)).str
        have H6 := Lib.hid (H4.out.2.trans hB6)
        clear hO6 hB6
        go_wp2_with fail
        go_ret
        exact ⟨rfl, H6.out⟩
      · have hm := HV.out.2.1 hv
        have hvb : (v4 != 0) = true := by simpa using hv
        have HMm := Lib.hid hm
        clear hm
        go_wp2_with fail
        refine (rmay_any 1 A P ma ca m1 cp k p1 w4 (HH.out.2.1.below H4.out.2) (HK.out.1.below H4.out.2) (by omega)).mono ?_
        rintro e w6 ⟨rfl, rfl⟩
        rw [HMm.out]
        go_wp2_with fail
        go_ret
        exact ⟨rfl, H4.out.2⟩
    · go_upto_region 5 with fail
      obtain ⟨V, hV⟩ : ∃ V, allF 2 true k p1 b5 = V := ⟨_, rfl⟩
      have hall := all_back 2 k p1 b5 H5.out.2
      rw [hV] at hall
      obtain ⟨W4, v4⟩ := V
      simp only at hall
      have HV := Lib.hid (And.intro hV hall)
      clear hV hall
      go_wp2_with fail
      refine (modesAll_any 2 true A P B ma ca m1 cp n5 cb k p1 b5 w1 (HH.out.2.1.below H1.out) (HK.out.1.below H1.out) (H5.out.1.below H1.out) (by omega) (by omega)).mono ?_
      rintro e w4 ⟨A4, n4, c4, rfl, hO4, hB4⟩
      rw [HV.out.1] at hO4
      simp only [HV.out.1]
      have hn4 : n4 ≤ 100000 := by have h1 := hO4.len; have h2 := HV.out.2.2.2; have h3 := H5.out.1.1; simp only at h1; omega
      have H4 := Lib.hid (And.intro hO4.rd (H1.out.trans hB4))
      clear hO4 hB4
      by_cases hv : v4 = 0
      · subst hv
        go_wp2_with fail
        refine (modesAll_any 2 false A P A4 ma ca m1 cp n4 c4 k p1 W4 w4 (HH.out.2.1.below H4.out.2) (HK.out.1.below H4.out.2) H4.out.1 (by omega) hn4).mono ?_
        rintro e w6 ⟨A6, n6, c6, rfl, hO6, hB6⟩
        have hbk := HV.out.2.2.1 (by first | rfl | trivial)
        rw [hbk] at hO6
        have HB := Lib.hid hbk
        clear hbk
        simp only [HB.out]
        have s5 := hO6.rd.str
        have s6 := (H5.out.1.below (H4.out.2.trans hB6)).str
        have H6 := Lib.hid (H4.out.2.trans hB6)
        clear hO6 hB6
        go_wp2_with fail
        go_ret
        exact ⟨rfl, H6.out⟩
      · have hm := HV.out.2.1 hv
        have hvb : (v4 != 0) = true := by simpa using hv
        have HMm := Lib.hid hm
        clear hm
        go_wp2_with fail
        refine (rmay_any 2 A P ma ca m1 cp k p1 w4 (HH.out.2.1.below H4.out.2) (HK.out.1.below H4.out.2) (by omega)).mono ?_
        rintro e w6 ⟨rfl, rfl⟩
        rw [HMm.out]
        go_wp2_with fail
        go_ret
        exact ⟨rfl, H4.out.2⟩
  · have hc1 : ¬ mode = 1 := fun h => hc (.inl h)
    have hc2 : ¬ mode = 2 := fun h => hc (.inr h)
    have hd1 : (mode == 1) = false := by simpa using hc1
    have hd2 : (mode == 2) = false := by simpa using hc2
    obtain ⟨n5, rfl⟩ : ∃ n5, n5 = m2 := ⟨_, rfl⟩
    obtain ⟨b5, rfl⟩ : ∃ b5, b5 = b1 := ⟨_, rfl⟩
    have hn5b : n5 ≤ 150 := hm2b
    have hdv : mode = 1 ∨ mode = 2 → b5.length % 16 = 0 := fun h => absurd h hc
    have H5 := Lib.hid (And.intro HK.out.2 hdv)
    clear hc hc1 hc2 hdv
    go_upto_region 5 with fail
    obtain ⟨V, hV⟩ : ∃ V, allF mode true k p1 b5 = V := ⟨_, rfl⟩
    have hall := all_back mode k p1 b5 H5.out.2
    rw [hV] at hall
    obtain ⟨W4, v4⟩ := V
    simp only at hall
    have HV := Lib.hid (And.intro hV hall)
    clear hV hall
    go_wp2_with fail
    refine (modesAll_any mode true A P B ma ca m1 cp n5 cb k p1 b5 w1 (HH.out.2.1.below H1.out) (HK.out.1.below H1.out) (H5.out.1.below H1.out) (by omega) (by omega)).mono ?_
    rintro e w4 ⟨A4, n4, c4, rfl, hO4, hB4⟩
    rw [HV.out.1] at hO4
    simp only [HV.out.1]
    have hn4 : n4 ≤ 100000 := by have h1 := hO4.len; have h2 := HV.out.2.2.2; have h3 := H5.out.1.1; simp only at h1; omega
    have H4 := Lib.hid (And.intro hO4.rd (H1.out.trans hB4))
    clear hO4 hB4
    by_cases hv : v4 = 0
    · subst hv
      go_wp2_with fail
      refine (modesAll_any mode false A P A4 ma ca m1 cp n4 c4 k p1 W4 w4 (HH.out.2.1.below H4.out.2) (HK.out.1.below H4.out.2) H4.out.1 (by omega) hn4).mono ?_
      rintro e w6 ⟨A6, n6, c6, rfl, hO6, hB6⟩
      have hbk := HV.out.2.2.1 (by first | rfl | trivial)
      rw [hbk] at hO6
      have HB := Lib.hid hbk
      clear hbk
      simp only [HB.out]
      have s5 := hO6.rd.str
      have s6 := (H5.out.1.below (H4.out.2.trans hB6)).str
      have H6 := Lib.hid (H4.out.2.trans hB6)
      clear hO6 hB6
      go_wp2_with fail
      go_ret
      exact ⟨rfl, H6.out⟩
    · have hm := HV.out.2.1 hv
      have hvb : (v4 != 0) = true := by simpa using hv
      have HMm := Lib.hid hm
      clear hm
      go_wp2_with fail
      refine (rmay_any mode A P ma ca m1 cp k p1 w4 (HH.out.2.1.below H4.out.2) (HK.out.1.below H4.out.2) (by omega)).mono ?_
      rintro e w6 ⟨rfl, rfl⟩
      rw [HMm.out]
      go_wp2_with fail
      go_ret
      exact ⟨rfl, H4.out.2⟩
end Go.Proofs.Ytiocmebcbhbcmaa
namespace Go.Proofs.Ytiocmebcbhbcmaa
set_option maxRecDepth 100000
open Go.RowKit

theorem allF_may (mode : Int) (enc : Bool) (k p b : List UInt8) (h : mayF mode k p ≠ 0) : allF mode enc k p b = ([], mayF mode k p) := by
  unfold allF mayF at *
  split
  · rfl
  · rename_i h1
    rw [if_neg h1] at h
    split
    · rfl
    · rename_i h2
      rw [if_neg h2] at h
      split
      · rfl
      · rename_i h3
        rw [if_neg h3] at h
        exact absurd rfl h
theorem mayF_ok (mode : Int) (k p : List UInt8) (h : mayF mode k p = 0) : ∃ mo : Nat, mode = (mo : Int) ∧ 1 ≤ mo ∧ mo ≤ 5 ∧ keyOk k ∧ parOk mo p := by
  unfold mayF at h
  by_cases h1 : mode < 1 ∨ 5 < mode
  · rw [if_pos h1] at h; exact absurd h (by decide)
  · rw [if_neg h1] at h
    by_cases h2 : keyOk k
    · rw [if_neg (fun h => h h2)] at h
      by_cases h3 : parOk mode.toNat p
      · exact ⟨mode.toNat, by omega, by omega, by omega, h2, h3⟩
      · rw [if_pos h3] at h; exact absurd h (by decide)
    · rw [if_pos h2] at h; exact absurd h (by decide)
set_option maxHeartbeats 4000000 in
theorem modesAllLaw_any (mode : Int) (enc : Bool) (A P B : Option Addr) (ma ca mp cp mb cb : Nat) (k p b : List UInt8) (w : World) (hk : Rd w A ma ca k) (hp : Rd w P mp cp p) (hb : Rd w B mb cb b) :
    Calls Try.prog 3 #[.int .i64 mode, .bool enc, .slice A ma ca, .slice P mp cp, .slice B mb cb] w (LawRes w) := by
  have hbeg := mbegun_any w
  have hk2 := hk.short (n := 40)
  have hp2 := hp.short (n := 300)
  have hb2 := hb.short (n := 120)
  have HH := Lib.hid (And.intro hbeg (And.intro hk (And.intro hp hb)))
  obtain ⟨m0, hm0⟩ : ∃ m, min ma 40 = m := ⟨_, rfl⟩
  obtain ⟨m1, hm1⟩ : ∃ m, min mp 300 = m := ⟨_, rfl⟩
  obtain ⟨m2, hm2⟩ : ∃ m, min mb 120 = m := ⟨_, rfl⟩
  obtain ⟨k1, hk1⟩ : ∃ k1, k.take 40 = k1 := ⟨_, rfl⟩
  obtain ⟨p1, hp1⟩ : ∃ p1, p.take 300 = p1 := ⟨_, rfl⟩
  obtain ⟨b1, hb1⟩ : ∃ b1, b.take 120 = b1 := ⟨_, rfl⟩
  rw [hm0, hk1] at hk2
  rw [hm1, hp1] at hp2
  rw [hm2, hb1] at hb2
  have hm1b : m1 ≤ 300 := by omega
  have hm2b : m2 ≤ 150 := by omega
  have HM := Lib.hid (And.intro hm0 (And.intro hm1 hm2))
  have HK := Lib.hid (And.intro hk2 (And.intro hp2 hb2))
  clear hbeg hk hp hb hk2 hp2 hb2 hm0 hm1 hm2 hk1 hp1 hb1
  go_enter Try.func3, Try.ntmps3
  go_wp2_with fail
  refine HH.out.1.mono ?_
  rintro e w1 ⟨rfl, hO1⟩
  have H1 := Lib.hid hO1
  clear hO1
  go_wp2_with fail
  refine (short_any A ma ca 40 k w1 (HH.out.2.1.below H1.out) (by omega)).mono ?_
  rintro e w2 ⟨rfl, rfl⟩
  go_wp2_with fail
  refine (short_any P mp cp 300 p w1 (HH.out.2.2.1.below H1.out) (by omega)).mono ?_
  rintro e w2 ⟨rfl, rfl⟩
  go_wp2_with fail
  refine (short_any B mb cb 120 b w1 (HH.out.2.2.2.below H1.out) (by omega)).mono ?_
  rintro e w3 ⟨rfl, rfl⟩
  rw [HM.out.1, HM.out.2.1, HM.out.2.2]
  by_cases hmay : mayF mode k1 p1 = 0
  · obtain ⟨mo, rfl, h1, h5, hko, hpo⟩ := mayF_ok mode k1 p1 hmay
    have hsame := refM_same mo enc k1 p1 b1 hko hpo h1 h5
    obtain ⟨R, hR⟩ : ∃ R, refM mo enc (encL (rks k1) ((rks k1).length / 16)) (decL (rks k1) ((rks k1).length / 16)) p1 b1 = R := ⟨_, rfl⟩
    obtain ⟨V, hV⟩ : ∃ V, allF (mo : Int) enc k1 p1 b1 = V := ⟨_, rfl⟩
    rw [hV, hR] at hsame
    obtain ⟨W5, v5⟩ := R
    obtain ⟨W4, v4⟩ := V
    unfold SameR at hsame
    simp only at hsame
    obtain ⟨rfl, hs1, hs2⟩ := hsame
    have HV := Lib.hid (And.intro hV (And.intro hR (And.intro hs1 (And.intro hs2 (And.intro hmay (And.intro hko hpo))))))
    clear hV hR hs1 hs2 hmay hko hpo
    go_wp2_with fail
    refine (modesAll_any (mo : Int) enc A P B m0 ca m1 cp m2 cb k1 p1 b1 w1 (HK.out.1.below H1.out) (HK.out.2.1.below H1.out) (HK.out.2.2.below H1.out) (by omega) (by omega)).mono ?_
    rintro e w4 ⟨A4, n4, c4, rfl, hO4, hB4⟩
    rw [HV.out.1] at hO4
    simp only [HV.out.1]
    have H4 := Lib.hid (And.intro hO4 (And.intro hB4 (H1.out.trans hB4)))
    clear hO4 hB4
    go_wp2_with fail
    refine (rmay_any (mo : Int) A P m0 ca m1 cp k1 p1 w4 (HK.out.1.below H4.out.2.2) (HK.out.2.1.below H4.out.2.2) (by omega)).mono ?_
    rintro e w6 ⟨rfl, rfl⟩
    rw [HV.out.2.2.2.2.1]
    go_wp2_with fail
    refine (rall_any mo enc A P B m0 ca m1 cp m2 cb k1 p1 b1 w4 (HK.out.1.below H4.out.2.2) (HK.out.2.1.below H4.out.2.2) (HK.out.2.2.below H4.out.2.2) HV.out.2.2.2.2.2.1 HV.out.2.2.2.2.2.2 h1 h5 (by omega) (by omega)).mono ?_
    rintro e w6 ⟨A6, n6, c6, rfl, hR6, hB6⟩
    rw [HV.out.2.1] at hR6
    simp only [HV.out.2.1]
    by_cases hv : v4 = 0
    · subst hv
      have hWW := HV.out.2.2.1 (by first | rfl | trivial)
      have s5 := (H4.out.1.rd.below hB6).str
      have s6 := hR6.str
      rw [← hWW] at s6
      have H6 := Lib.hid (H4.out.2.2.trans hB6)
      clear hR6 hB6 hWW
      go_wp2_with fail
      go_ret
      exact ⟨rfl, H6.out⟩
    · have hWW := HV.out.2.2.2.1 hv
      have hn4 := H4.out.1.len
      rw [hWW] at hn4
      have hn40 : n4 = 0 := hn4
      subst hn40
      have hvb : (v4 != 0) = true := by simpa using hv
      have H6 := Lib.hid (H4.out.2.2.trans hB6)
      clear hR6 hB6 hWW hn4
      go_wp2_with fail
      go_ret
      exact ⟨rfl, H6.out⟩
  · have hV := allF_may mode enc k1 p1 b1 hmay
    obtain ⟨v4, hv4⟩ : ∃ v, mayF mode k1 p1 = v := ⟨_, rfl⟩
    rw [hv4] at hV hmay
    have hvb : (v4 != 0) = true := by simpa using hmay
    have HV := Lib.hid (And.intro hV hv4)
    clear hV hv4 hmay
    go_wp2_with fail
    refine (modesAll_any mode enc A P B m0 ca m1 cp m2 cb k1 p1 b1 w1 (HK.out.1.below H1.out) (HK.out.2.1.below H1.out) (HK.out.2.2.below H1.out) (by omega) (by omega)).mono ?_
    rintro e w4 ⟨A4, n4, c4, rfl, hO4, hB4⟩
    rw [HV.out.1] at hO4
    simp only [HV.out.1]
    have hn4 := hO4.len
    have hn40 : n4 = 0 := hn4
    subst hn40
    have H4 := Lib.hid (H1.out.trans hB4)
    clear hO4 hB4 hn4
    go_wp2_with fail
    refine (rmay_any mode A P m0 ca m1 cp k1 p1 w4 (HK.out.1.below H4.out) (HK.out.2.1.below H4.out) (by omega)).mono ?_
    rintro e w6 ⟨rfl, rfl⟩
    rw [HV.out.2]
    go_wp2_with fail
    go_ret
    exact ⟨rfl, H4.out⟩
end Go.Proofs.Ytiocmebcbhbcmaa
