/-
  Modes, the document's answer: All of a GCM text that is opened.
  'baileylaw6.ModesCMAC' returns true: the MAC is SP 800-38B's. No condition.
-/
import Derived.Test.YtiocmebcbhbcmaaMr10
import Derived.Test.YtiocmebcbhbcmaaZzMb1
import Derived.Test.YtiocmebcbhbcmaaZzMr6
import Derived.Test.YtiocmebcbhbcmaaZzMo12
namespace Go.Proofs.Ytiocmebcbhbcmaa
set_option maxRecDepth 100000
open Go.RowKit

/-- Opened, plainly. -/
def openF (E : List UInt8 → List UInt8) (p b : List UInt8) : List UInt8 × Int :=
  if b.length < 16 then ([], 65) else if gcmT E p (b.take (b.length - 16)) = b.drop (b.length - 16) then (gcmO E p (b.take (b.length - 16)), 0) else ([], 64)
theorem allF_open (k p b : List UInt8) (hk : keyOk k) (hp : gcmOk p) : allF 5 false k p b = openF (encL (rks k) ((rks k).length / 16)) p b := by
  have hpar : parOk 5 p := by unfold parOk; exact hp
  have hf : ((PSof 5 false k p).fin b) = openF (encL (rks k) ((rks k).length / 16)) p b := by
    unfold PS.fin
    rw [if_neg (show ¬ (PSof 5 false k p).mode = 4 from (by show ¬ (5 : Nat) = 4; decide)), if_pos (show (PSof 5 false k p).mode = 5 from rfl), if_neg (show ¬ (PSof 5 false k p).enc = true from (by show ¬ false = true; decide))]
    rfl
  have hfr : (PSof 5 false k p).front b = [] := by unfold PS.front; rw [if_neg (show ¬ (PSof 5 false k p).mode = 4 from (by show ¬ (5 : Nat) = 4; decide)), if_pos (show (PSof 5 false k p).mode = 5 from rfl), if_neg (show ¬ (PSof 5 false k p).enc = true from (by show ¬ false = true; decide))]
  unfold allF
  rw [if_neg (by decide), if_neg (fun h => h hk)]
  show (if ¬ parOk 5 p then _ else _) = _
  rw [if_neg (fun h => h hpar)]
  show (if ((PSof 5 false k p).fin b).2 = 0 then ((PSof 5 false k p).front b ++ ((PSof 5 false k p).fin b).1, 0) else ([], ((PSof 5 false k p).fin b).2)) = _
  rw [hf, hfr]
  unfold openF
  split
  · rfl
  · split
    · rfl
    · rfl
theorem le_R16 {w : World} {A : Option Addr} {m c : Nat} {l : List UInt8} (h : Rd w A m c l) : m ≤ c := h.2.1
set_option maxHeartbeats 4000000 in
theorem rall_open (A P C : Option Addr) (mk ck mp cp n cb : Nat) (k p b : List UInt8) (w : World) (hk : Rd w A mk ck k) (hp : Rd w P mp cp p) (hb : Rd w C n cb b) (hko : keyOk k) (hpo : gcmOk p) (hmp : mp ≤ 40000) (hn : n ≤ 40000) :
    Calls Try.prog 15 #[.int .i64 5, .bool false, .slice A mk ck, .slice P mp cp, .slice C n cb] w (RvRes w (openF (encL (rks k) ((rks k).length / 16)) p b)) := by
  have hcall := rnew_any A mk ck k w hk hko
  obtain ⟨TG, hTG⟩ : ∃ T, openF (encL (rks k) ((rks k).length / 16)) p b = T := ⟨_, rfl⟩
  rw [hTG]
  have hcb := le_R16 hb
  obtain ⟨q, hq⟩ : ∃ q, n / 16 = q := ⟨_, rfl⟩
  have hq1 : Int.tdiv (n : Int) 16 = (q : Int) := by rw [Int.tdiv_eq_ediv_of_nonneg (by omega)]; omega
  have hq2 : (n : Int) / 16 = (q : Int) := by omega
  obtain ⟨n5, hn5⟩ : ∃ n5, q * 16 = n5 := ⟨_, rfl⟩
  have hn5i : (q : Int) * 16 = (n5 : Int) := by omega
  have hn5w : IntKind.i64.wrap (n5 : Int) = (n5 : Int) := IntWalk.i64_in _ (by omega)
  have hsl := slice_to C n cb n5 hb.spot (by omega)
  have hnl := hb.1
  have HH := Lib.hid (And.intro hcall (And.intro hp (And.intro hb (And.intro hpo (And.intro hnl hTG)))))
  have HQ := Lib.hid (And.intro hq hn5)
  clear hcall hp hb hk hpo hnl hTG hq hn5
  by_cases h16 : n5 = n
  · have he : ((n5 : Int) == (n : Int)) = true := by simp; omega
    clear h16
    by_cases hlt : n < 16
    · have hli : (n : Int) < 16 := by omega
      have hld : decide ((n : Int) < 16) = true := decide_eq_true hli
      have HT : Hid (TG = ([], 65)) := Lib.hid (by rw [← HH.out.2.2.2.2.2]; unfold openF; rw [if_pos (by rw [← HH.out.2.2.2.2.1]; exact hlt)])
      clear hlt
      go_enter Try.func15, Try.ntmps15
      go_wp2_with fail
      refine HH.out.1.mono ?_
      rintro e w1 ⟨c, kb, R, cap, g1, g2, rfl, hC, hB⟩
      have H1 := Lib.hid hB
      clear hB hC hko
      go_wp2_with fail
      refine bodyPost_ret (results_tmp2 rfl _ _ _) rfl ?_
      rw [HT.out]
      exact RvRes.nil _ _ _ H1.out
    · have hli : ¬ (n : Int) < 16 := by omega
      have hld : decide ((n : Int) < 16) = false := decide_eq_false hli
      obtain ⟨nb, hnb⟩ : ∃ nb, n - 16 = nb := ⟨_, rfl⟩
      have hnbi : (n : Int) - 16 = (nb : Int) := by omega
      have hnbw : IntKind.i64.wrap (nb : Int) = (nb : Int) := IntWalk.i64_in _ (by omega)
      have hnl2 : ¬ b.length < 16 := by rw [← HH.out.2.2.2.2.1]; exact hlt
      have hsb := slice_to C n cb nb HH.out.2.2.1.spot (by omega)
      have hrb := HH.out.2.2.1.front (k := nb) (by omega)
      obtain ⟨A6, n6, c6, hn6, hS6, hR6, _⟩ := HH.out.2.2.1.cut_ex2 (k := nb) (by omega)
      have HN := Lib.hid (And.intro hnb (And.intro hrb (And.intro hR6 (And.intro hnl2 hS6))))
      have hnb4 : nb ≤ 40000 := by omega
      clear hlt hnb hrb hR6 hnl2 hn6 hS6
      go_enter Try.func15, Try.ntmps15
      go_wp2_with fail
      refine HH.out.1.mono ?_
      rintro e w1 ⟨c, kb, R, cap, g1, g2, rfl, hC, hB⟩
      have hR : (rks k).length / 16 = R := by have : (rks k).length = 16 * R := hC.2.2.1; omega
      have hTG := HH.out.2.2.2.2.2
      rw [hR] at hTG
      have hEl : ∀ l : List UInt8, l.length = 16 → (encL (rks k) R l).length = 16 := fun l hl => enc_ne _ R l hl hC.2.2.1
      have hen := REn.of hC
      obtain ⟨E, hE⟩ : ∃ E, encL (rks k) R = E := ⟨_, rfl⟩
      obtain ⟨D, hD⟩ : ∃ D, decL (rks k) R = D := ⟨_, rfl⟩
      rw [hE, hD] at hen
      rw [hE] at hEl hTG
      unfold openF at hTG
      rw [if_neg HN.out.2.2.2.1, ← HH.out.2.2.2.2.1, HN.out.1] at hTG
      obtain ⟨lo, hlo⟩ : ∃ l, gcmO E p (b.take nb) = l := ⟨_, rfl⟩
      obtain ⟨lt, hlt⟩ : ∃ l, gcmT E p (b.take nb) = l := ⟨_, rfl⟩
      obtain ⟨lb, hlb⟩ : ∃ l, b.drop nb = l := ⟨_, rfl⟩
      rw [hlo, hlt, hlb] at hTG
      have hR6 := HN.out.2.2.1
      rw [hlb] at hR6
      have HL := Lib.hid (And.intro hlo (And.intro hlt (And.intro hTG hR6)))
      have H1 := Lib.hid (And.intro hen (And.intro hEl hB))
      clear hC hen hEl hE hD hR hB hko hTG hlo hlt hlb hR6
      go_upto_region 38 with (go_at_call 37; refine (rgcm_any c false E D P C mp cp nb cb p (b.take nb) w1 H1.out.1 H1.out.2.1 (HH.out.2.1.below H1.out.2.2) HH.out.2.2.2.1 hmp (HN.out.2.1.below H1.out.2.2) hnb4).mono ?_; rintro e w4 ⟨A4, n4, c4, A5, c5, rfl, hO4, hR5, _, hB4⟩; have H4 := Lib.hid (And.intro hO4.rd (And.intro hR5 (Old.trans H1.out.2.2 hB4))); clear hO4 hR5 hB4)
      have hR4 := H4.out.1
      have hR5 := H4.out.2.1
      unfold gcmX at hR5
      rw [if_neg (by decide), HL.out.2.1] at hR5
      rw [HL.out.1] at hR4
      have HR := Lib.hid (And.intro hR4 (And.intro hR5 (HL.out.2.2.2.below H4.out.2.2)))
      clear hR4 hR5
      refine region_old (by kernel_rfl) (fun wd hHeld hSz => ?_)
      have HSz := Lib.hid hSz
      clear hSz
      have hOd := hHeld
      refine takeL (i := 0) (v := ?_) rfl (by kernel_rfl) (by kernel_rfl) (by kernel_rfl) (fun _ _ _ h => h) (Or.inl ⟨by rfl, ?_⟩) hHeld ?_
      rotate_left
      focus (intro wq hSw; clear hSw; go_simp; try with_reducible rfl)
      try simp only [Act.put, List.setIfInBounds_toArray, List.set_cons_zero, List.set_cons_succ]
      refine takeL (i := 1) (v := ?_) rfl (by kernel_rfl) (by kernel_rfl) (by kernel_rfl) (fun _ _ _ h => h) (Or.inl ⟨by rfl, ?_⟩) hHeld ?_
      rotate_left
      focus (intro wq hSw; have hRun := HR.out.2.1.str_below hSw; clear hSw; go_simp; try with_reducible rfl)
      try simp only [Act.put, List.setIfInBounds_toArray, List.set_cons_zero, List.set_cons_succ]
      refine takeL (i := 2) (v := ?_) rfl (by kernel_rfl) (by kernel_rfl) (by kernel_rfl) (fun _ _ _ h => h) (Or.inl ⟨by rfl, ?_⟩) hHeld ?_
      rotate_left
      focus (intro wq hSw; clear hSw; go_simp; try with_reducible rfl)
      try simp only [Act.put, List.setIfInBounds_toArray, List.set_cons_zero, List.set_cons_succ]
      refine takeL (i := 3) (v := ?_) rfl (by kernel_rfl) (by kernel_rfl) (by kernel_rfl) (fun _ _ _ h => h) (Or.inl ⟨by rfl, ?_⟩) hHeld ?_
      rotate_left
      focus (intro wq hSw; clear hSw; go_simp; try with_reducible rfl)
      try simp only [Act.put, List.setIfInBounds_toArray, List.set_cons_zero, List.set_cons_succ]
      refine takeL (i := 4) (v := ?_) rfl (by kernel_rfl) (by kernel_rfl) (by kernel_rfl) (fun _ _ _ h => h) (Or.inl ⟨by rfl, ?_⟩) hHeld ?_
      rotate_left
      focus (intro wq hSw; clear hSw; go_simp; try with_reducible rfl)
      try simp only [Act.put, List.setIfInBounds_toArray, List.set_cons_zero, List.set_cons_succ]
      refine takeL (i := 5) (v := ?_) rfl (by kernel_rfl) (by kernel_rfl) (by kernel_rfl) (fun _ _ _ h => h) (Or.inl ⟨by rfl, ?_⟩) hHeld ?_
      rotate_left
      focus (intro wq hSw; clear hSw; go_simp; try with_reducible rfl)
      try simp only [Act.put, List.setIfInBounds_toArray, List.set_cons_zero, List.set_cons_succ]
      refine takeL (i := 6) (v := ?_) rfl (by kernel_rfl) (by kernel_rfl) (by kernel_rfl) (fun _ _ _ h => h) (Or.inl ⟨by rfl, ?_⟩) hHeld ?_
      rotate_left
      focus (intro wq hSw; have hRun := HN.out.2.2.2.2 wq; clear hSw; go_simp; try with_reducible rfl)
      try simp only [Act.put, List.setIfInBounds_toArray, List.set_cons_zero, List.set_cons_succ]
      refine takeL (i := 7) (v := ?_) rfl (by kernel_rfl) (by kernel_rfl) (by kernel_rfl) (fun _ _ _ h => h) (Or.inl ⟨by rfl, ?_⟩) hHeld ?_
      rotate_left
      focus (intro wq hSw; have hRun := HR.out.2.2.str_below hSw; clear hSw; go_simp; try with_reducible rfl)
      try simp only [Act.put, List.setIfInBounds_toArray, List.set_cons_zero, List.set_cons_succ]
      refine takeL (i := 8) (v := ?_) rfl (by kernel_rfl) (by kernel_rfl) (by kernel_rfl) (fun _ _ _ h => h) (Or.inl ⟨by rfl, ?_⟩) hHeld ?_
      rotate_left
      focus (intro wq hSw; clear hSw; go_simp; try with_reducible rfl)
      try simp only [Act.put, List.setIfInBounds_toArray, List.set_cons_zero, List.set_cons_succ]
      refine wpAnyH_done (by kernel_rfl) ?_ _
      refine NoPanic.normal ?_
      have HO := Lib.hid (H4.out.2.2.trans hHeld)
      have HOd := Lib.hid (hHeld)
      clear hOd hHeld
      try simp only [Exit.then]
      try go_at_K
      by_cases hq : lt = lb
      · have hT := HL.out.2.2.1
        rw [if_pos hq] at hT
        subst hq
        have HT := Lib.hid hT
        clear hT
        simp only [beq_self_eq_true, Bool.not_true]
        go_wp2_with fail
        refine bodyPost_ret (results_tmp2 rfl _ _ _) rfl ?_
        rw [← HT.out]
        exact ⟨_, _, _, rfl, HR.out.1.below HOd.out, HO.out⟩
      · have hT := HL.out.2.2.1
        rw [if_neg hq] at hT
        have HT := Lib.hid hT
        have hbe : (lt == lb) = false := by simpa using hq
        clear hT hq
        simp only [hbe, Bool.not_false]
        go_wp2_with fail
        refine bodyPost_ret (results_tmp2 rfl _ _ _) rfl ?_
        rw [← HT.out]
        exact RvRes.nil _ _ _ HO.out
  · have he : ((n5 : Int) == (n : Int)) = false := by simp; omega
    clear h16
    by_cases hlt : n < 16
    · have hli : (n : Int) < 16 := by omega
      have hld : decide ((n : Int) < 16) = true := decide_eq_true hli
      have HT : Hid (TG = ([], 65)) := Lib.hid (by rw [← HH.out.2.2.2.2.2]; unfold openF; rw [if_pos (by rw [← HH.out.2.2.2.2.1]; exact hlt)])
      clear hlt
      go_enter Try.func15, Try.ntmps15
      go_wp2_with fail
      refine HH.out.1.mono ?_
      rintro e w1 ⟨c, kb, R, cap, g1, g2, rfl, hC, hB⟩
      have H1 := Lib.hid hB
      clear hB hC hko
      go_wp2_with fail
      refine bodyPost_ret (results_tmp2 rfl _ _ _) rfl ?_
      rw [HT.out]
      exact RvRes.nil _ _ _ H1.out
    · have hli : ¬ (n : Int) < 16 := by omega
      have hld : decide ((n : Int) < 16) = false := decide_eq_false hli
      obtain ⟨nb, hnb⟩ : ∃ nb, n - 16 = nb := ⟨_, rfl⟩
      have hnbi : (n : Int) - 16 = (nb : Int) := by omega
      have hnbw : IntKind.i64.wrap (nb : Int) = (nb : Int) := IntWalk.i64_in _ (by omega)
      have hnl2 : ¬ b.length < 16 := by rw [← HH.out.2.2.2.2.1]; exact hlt
      have hsb := slice_to C n cb nb HH.out.2.2.1.spot (by omega)
      have hrb := HH.out.2.2.1.front (k := nb) (by omega)
      obtain ⟨A6, n6, c6, hn6, hS6, hR6, _⟩ := HH.out.2.2.1.cut_ex2 (k := nb) (by omega)
      have HN := Lib.hid (And.intro hnb (And.intro hrb (And.intro hR6 (And.intro hnl2 hS6))))
      have hnb4 : nb ≤ 40000 := by omega
      clear hlt hnb hrb hR6 hnl2 hn6 hS6
      go_enter Try.func15, Try.ntmps15
      go_wp2_with fail
      refine HH.out.1.mono ?_
      rintro e w1 ⟨c, kb, R, cap, g1, g2, rfl, hC, hB⟩
      have hR : (rks k).length / 16 = R := by have : (rks k).length = 16 * R := hC.2.2.1; omega
      have hTG := HH.out.2.2.2.2.2
      rw [hR] at hTG
      have hEl : ∀ l : List UInt8, l.length = 16 → (encL (rks k) R l).length = 16 := fun l hl => enc_ne _ R l hl hC.2.2.1
      have hen := REn.of hC
      obtain ⟨E, hE⟩ : ∃ E, encL (rks k) R = E := ⟨_, rfl⟩
      obtain ⟨D, hD⟩ : ∃ D, decL (rks k) R = D := ⟨_, rfl⟩
      rw [hE, hD] at hen
      rw [hE] at hEl hTG
      unfold openF at hTG
      rw [if_neg HN.out.2.2.2.1, ← HH.out.2.2.2.2.1, HN.out.1] at hTG
      obtain ⟨lo, hlo⟩ : ∃ l, gcmO E p (b.take nb) = l := ⟨_, rfl⟩
      obtain ⟨lt, hlt⟩ : ∃ l, gcmT E p (b.take nb) = l := ⟨_, rfl⟩
      obtain ⟨lb, hlb⟩ : ∃ l, b.drop nb = l := ⟨_, rfl⟩
      rw [hlo, hlt, hlb] at hTG
      have hR6 := HN.out.2.2.1
      rw [hlb] at hR6
      have HL := Lib.hid (And.intro hlo (And.intro hlt (And.intro hTG hR6)))
      have H1 := Lib.hid (And.intro hen (And.intro hEl hB))
      clear hC hen hEl hE hD hR hB hko hTG hlo hlt hlb hR6
      go_upto_region 38 with (go_at_call 37; refine (rgcm_any c false E D P C mp cp nb cb p (b.take nb) w1 H1.out.1 H1.out.2.1 (HH.out.2.1.below H1.out.2.2) HH.out.2.2.2.1 hmp (HN.out.2.1.below H1.out.2.2) hnb4).mono ?_; rintro e w4 ⟨A4, n4, c4, A5, c5, rfl, hO4, hR5, _, hB4⟩; have H4 := Lib.hid (And.intro hO4.rd (And.intro hR5 (Old.trans H1.out.2.2 hB4))); clear hO4 hR5 hB4)
      have hR4 := H4.out.1
      have hR5 := H4.out.2.1
      unfold gcmX at hR5
      rw [if_neg (by decide), HL.out.2.1] at hR5
      rw [HL.out.1] at hR4
      have HR := Lib.hid (And.intro hR4 (And.intro hR5 (HL.out.2.2.2.below H4.out.2.2)))
      clear hR4 hR5
      refine region_old (by kernel_rfl) (fun wd hHeld hSz => ?_)
      have HSz := Lib.hid hSz
      clear hSz
      have hOd := hHeld
      refine takeL (i := 0) (v := ?_) rfl (by kernel_rfl) (by kernel_rfl) (by kernel_rfl) (fun _ _ _ h => h) (Or.inl ⟨by rfl, ?_⟩) hHeld ?_
      rotate_left
      focus (intro wq hSw; clear hSw; go_simp; try with_reducible rfl)
      try simp only [Act.put, List.setIfInBounds_toArray, List.set_cons_zero, List.set_cons_succ]
      refine takeL (i := 1) (v := ?_) rfl (by kernel_rfl) (by kernel_rfl) (by kernel_rfl) (fun _ _ _ h => h) (Or.inl ⟨by rfl, ?_⟩) hHeld ?_
      rotate_left
      focus (intro wq hSw; have hRun := HR.out.2.1.str_below hSw; clear hSw; go_simp; try with_reducible rfl)
      try simp only [Act.put, List.setIfInBounds_toArray, List.set_cons_zero, List.set_cons_succ]
      refine takeL (i := 2) (v := ?_) rfl (by kernel_rfl) (by kernel_rfl) (by kernel_rfl) (fun _ _ _ h => h) (Or.inl ⟨by rfl, ?_⟩) hHeld ?_
      rotate_left
      focus (intro wq hSw; clear hSw; go_simp; try with_reducible rfl)
      try simp only [Act.put, List.setIfInBounds_toArray, List.set_cons_zero, List.set_cons_succ]
      refine takeL (i := 3) (v := ?_) rfl (by kernel_rfl) (by kernel_rfl) (by kernel_rfl) (fun _ _ _ h => h) (Or.inl ⟨by rfl, ?_⟩) hHeld ?_
      rotate_left
      focus (intro wq hSw; clear hSw; go_simp; try with_reducible rfl)
      try simp only [Act.put, List.setIfInBounds_toArray, List.set_cons_zero, List.set_cons_succ]
      refine takeL (i := 4) (v := ?_) rfl (by kernel_rfl) (by kernel_rfl) (by kernel_rfl) (fun _ _ _ h => h) (Or.inl ⟨by rfl, ?_⟩) hHeld ?_
      rotate_left
      focus (intro wq hSw; clear hSw; go_simp; try with_reducible rfl)
      try simp only [Act.put, List.setIfInBounds_toArray, List.set_cons_zero, List.set_cons_succ]
      refine takeL (i := 5) (v := ?_) rfl (by kernel_rfl) (by kernel_rfl) (by kernel_rfl) (fun _ _ _ h => h) (Or.inl ⟨by rfl, ?_⟩) hHeld ?_
      rotate_left
      focus (intro wq hSw; clear hSw; go_simp; try with_reducible rfl)
      try simp only [Act.put, List.setIfInBounds_toArray, List.set_cons_zero, List.set_cons_succ]
      refine takeL (i := 6) (v := ?_) rfl (by kernel_rfl) (by kernel_rfl) (by kernel_rfl) (fun _ _ _ h => h) (Or.inl ⟨by rfl, ?_⟩) hHeld ?_
      rotate_left
      focus (intro wq hSw; have hRun := HN.out.2.2.2.2 wq; clear hSw; go_simp; try with_reducible rfl)
      try simp only [Act.put, List.setIfInBounds_toArray, List.set_cons_zero, List.set_cons_succ]
      refine takeL (i := 7) (v := ?_) rfl (by kernel_rfl) (by kernel_rfl) (by kernel_rfl) (fun _ _ _ h => h) (Or.inl ⟨by rfl, ?_⟩) hHeld ?_
      rotate_left
      focus (intro wq hSw; have hRun := HR.out.2.2.str_below hSw; clear hSw; go_simp; try with_reducible rfl)
      try simp only [Act.put, List.setIfInBounds_toArray, List.set_cons_zero, List.set_cons_succ]
      refine takeL (i := 8) (v := ?_) rfl (by kernel_rfl) (by kernel_rfl) (by kernel_rfl) (fun _ _ _ h => h) (Or.inl ⟨by rfl, ?_⟩) hHeld ?_
      rotate_left
      focus (intro wq hSw; clear hSw; go_simp; try with_reducible rfl)
      try simp only [Act.put, List.setIfInBounds_toArray, List.set_cons_zero, List.set_cons_succ]
      refine wpAnyH_done (by kernel_rfl) ?_ _
      refine NoPanic.normal ?_
      have HO := Lib.hid (H4.out.2.2.trans hHeld)
      have HOd := Lib.hid (hHeld)
      clear hOd hHeld
      try simp only [Exit.then]
      try go_at_K
      by_cases hq : lt = lb
      · have hT := HL.out.2.2.1
        rw [if_pos hq] at hT
        subst hq
        have HT := Lib.hid hT
        clear hT
        simp only [beq_self_eq_true, Bool.not_true]
        go_wp2_with fail
        refine bodyPost_ret (results_tmp2 rfl _ _ _) rfl ?_
        rw [← HT.out]
        exact ⟨_, _, _, rfl, HR.out.1.below HOd.out, HO.out⟩
      · have hT := HL.out.2.2.1
        rw [if_neg hq] at hT
        have HT := Lib.hid hT
        have hbe : (lt == lb) = false := by simpa using hq
        clear hT hq
        simp only [hbe, Bool.not_false]
        go_wp2_with fail
        refine bodyPost_ret (results_tmp2 rfl _ _ _) rfl ?_
        rw [← HT.out]
        exact RvRes.nil _ _ _ HO.out
end Go.Proofs.Ytiocmebcbhbcmaa
namespace Go.Proofs.Ytiocmebcbhbcmaa
set_option maxRecDepth 100000
open Go.RowKit

def macF (k b : List UInt8) : List UInt8 := if keyOk k then cmacF (encL (rks k) ((rks k).length / 16)) b else []
theorem cmac_res (A C : Option Addr) (mk ck n cb : Nat) (k b : List UInt8) (w : World) (hk : Rd w A mk ck k) (hb : Rd w C n cb b) (hn : n ≤ 90000) :
    Calls Try.prog 22 #[.slice A mk ck, .slice C n cb] w fun e w' => ∃ A' n' c', e = .returned (.slice A' n' c') ∧ Rd w' A' n' c' (macF k b) ∧ Old w w' := by
  unfold macF
  by_cases h : keyOk k
  · rw [if_pos h]
    refine (cmac_any A C mk ck n cb k b w hk hb h hn).mono ?_
    rintro e w' ⟨g, rfl, h1, h2⟩
    exact ⟨_, _, _, rfl, h1, h2⟩
  · rw [if_neg h]
    have hl := hk.1
    refine (cmac_no A C mk ck n cb w (by unfold keyOk at h; omega)).mono ?_
    rintro e w' ⟨rfl, rfl⟩
    exact ⟨_, _, _, rfl, Rd.nil _, Old.refl _⟩
theorem rcmac_res (A C : Option Addr) (mk ck n cb : Nat) (k b : List UInt8) (w : World) (hk : Rd w A mk ck k) (hb : Rd w C n cb b) (hn : n ≤ 90000) :
    Calls Try.prog 23 #[.slice A mk ck, .slice C n cb] w fun e w' => ∃ A' n' c', e = .returned (.slice A' n' c') ∧ Rd w' A' n' c' (macF k b) ∧ Old w w' := by
  unfold macF
  by_cases h : keyOk k
  · rw [if_pos h]
    refine (rcmac_any A C mk ck n cb k b w hk hb h hn).mono ?_
    rintro e w' ⟨A', c', rfl, h1, h2⟩
    exact ⟨_, _, _, rfl, h1, h2⟩
  · rw [if_neg h]
    have hl := hk.1
    refine (rcmac_no A C mk ck n cb w (by unfold keyOk at h; omega)).mono ?_
    rintro e w' ⟨rfl, rfl⟩
    exact ⟨_, _, _, rfl, Rd.nil _, Old.refl _⟩
set_option maxHeartbeats 2000000 in
theorem modesCMAC_any (A C : Option Addr) (ma ca mb cb : Nat) (k b : List UInt8) (w : World) (hk : Rd w A ma ca k) (hb : Rd w C mb cb b) :
    Calls Try.prog 7 #[.slice A ma ca, .slice C mb cb] w (LawRes w) := by
  have hbeg := mbegun_any w
  have hk2 := hk.short (n := 40)
  have hb2 := hb.short (n := 100)
  have HH := Lib.hid (And.intro hbeg (And.intro hk2 (And.intro hb2 (And.intro hk hb))))
  obtain ⟨m1, hm1⟩ : ∃ m, min ma 40 = m := ⟨_, rfl⟩
  obtain ⟨m2, hm2⟩ : ∃ m, min mb 100 = m := ⟨_, rfl⟩
  obtain ⟨k1, hk1⟩ : ∃ k1, k.take 40 = k1 := ⟨_, rfl⟩
  obtain ⟨b1, hb1⟩ : ∃ b1, b.take 100 = b1 := ⟨_, rfl⟩
  rw [hm1, hk1] at hk2
  rw [hm2, hb1] at hb2
  have hm2b : m2 ≤ 100 := by omega
  have HM := Lib.hid (And.intro hm1 hm2)
  have HK := Lib.hid (And.intro hk2 hb2)
  clear hbeg hk hb hk2 hb2 hm1 hm2 hk1 hb1
  go_enter Try.func7, Try.ntmps7
  go_wp2_with fail
  refine HH.out.1.mono ?_
  rintro e w1 ⟨rfl, hO1⟩
  have H1 := Lib.hid hO1
  clear hO1
  go_wp2_with fail
  refine (short_any A ma ca 40 k w1 (HH.out.2.2.2.1.below H1.out) (by omega)).mono ?_
  rintro e w2 ⟨rfl, rfl⟩
  go_wp2_with fail
  refine (short_any C mb cb 100 b w1 (HH.out.2.2.2.2.below H1.out) (by omega)).mono ?_
  rintro e w3 ⟨rfl, rfl⟩
  rw [HM.out.1, HM.out.2]
  go_upto_region 3 with fail
  refine region_old (by kernel_rfl) (fun wd hHeld hSz => ?_)
  have HSz := Lib.hid hSz
  clear hSz
  have hOd := hHeld
  refine takeL (i := 0) (v := ?_) rfl (by kernel_rfl) (by kernel_rfl) (by kernel_rfl) (fun _ _ _ h => h) (Or.inl ⟨by rfl, ?_⟩) hHeld ?_
  rotate_left
  focus (intro wq hSw; clear hSw; go_simp; try with_reducible rfl)
  try simp only [Act.put, List.setIfInBounds_toArray, List.set_cons_zero, List.set_cons_succ]
  refine takeL (i := 1) (v := ?_) rfl (by kernel_rfl) (by kernel_rfl) (by kernel_rfl) (fun _ _ _ h => h) (Or.inl ⟨by rfl, ?_⟩) hHeld ?_
  rotate_left
  focus (intro wq hSw; clear hSw; go_simp; try with_reducible rfl)
  try simp only [Act.put, List.setIfInBounds_toArray, List.set_cons_zero, List.set_cons_succ]
  refine takeL (i := 2) (v := ?_) rfl (by kernel_rfl) (by kernel_rfl) (by kernel_rfl) (fun _ _ _ h => h) (Or.inl ⟨by rfl, ?_⟩) hHeld ?_
  rotate_left
  focus (intro wq hSw; clear hSw; go_simp; try with_reducible rfl)
  try simp only [Act.put, List.setIfInBounds_toArray, List.set_cons_zero, List.set_cons_succ]
  refine takeL (i := 3) (v := ?_) rfl (by kernel_rfl) (by kernel_rfl) (by kernel_rfl) (fun _ _ _ h => h) (Or.inl ⟨by rfl, ?_⟩) hHeld ?_
  rotate_left
  focus (intro wq hSw; clear hSw; go_simp; try with_reducible rfl)
  try simp only [Act.put, List.setIfInBounds_toArray, List.set_cons_zero, List.set_cons_succ]
  refine takeL (i := 6) (v := ?_) rfl (by kernel_rfl) (by kernel_rfl) (by kernel_rfl) (fun _ _ _ h => h) (Or.inl ⟨by rfl, ?_⟩) hHeld ?_
  rotate_left
  focus (intro wq hSw; clear hSw; go_simp; try with_reducible rfl)
  try simp only [Act.put, List.setIfInBounds_toArray, List.set_cons_zero, List.set_cons_succ]
  refine takeL (i := 7) (v := ?_) rfl (by kernel_rfl) (by kernel_rfl) (by kernel_rfl) (fun _ _ _ h => h) (Or.inl ⟨by rfl, ?_⟩) hHeld ?_
  rotate_left
  focus (intro wq hSw; clear hSw; go_simp; try with_reducible rfl)
  try simp only [Act.put, List.setIfInBounds_toArray, List.set_cons_zero, List.set_cons_succ]
  refine wpAnyH_ready (rs := [4]) (by kernel_rfl) (by simp) ?_
  refine consL rfl (fun K hK => ?_) AllReadyH.nil
  go_simp
  refine (cmac_res A C m1 ca m2 cb k1 b1 wd ((HK.out.1.below H1.out).below hOd) ((HK.out.2.below H1.out).below hOd) (by omega)).mono ?_
  rintro e w4 ⟨A4, n4, c4, rfl, hR4, hO4⟩
  refine hK.out _ _ (hHeld.trans hO4) (fun hHeld => ?_)
  clear hK K
  try simp only [Act.put, List.setIfInBounds_toArray, List.set_cons_zero, List.set_cons_succ]
  refine wpAnyH_old (w1 := w4) (hOd.trans hO4) (fun hHeld => ?_) (Old.refl w4)
  refine takeL (i := 5) (v := ?_) rfl (by kernel_rfl) (by kernel_rfl) (by kernel_rfl) (fun _ _ _ h => h) (Or.inl ⟨by rfl, ?_⟩) hHeld ?_
  rotate_left
  focus (intro wq hSw; have hRun := hR4.str_below hSw; clear hSw; go_simp; try with_reducible rfl)
  try simp only [Act.put, List.setIfInBounds_toArray, List.set_cons_zero, List.set_cons_succ]
  refine wpAnyH_ready (rs := [8]) (by kernel_rfl) (by simp) ?_
  refine consL rfl (fun K hK => ?_) AllReadyH.nil
  go_simp
  refine (rcmac_res A C m1 ca m2 cb k1 b1 w4 (((HK.out.1.below H1.out).below hOd).below hO4) (((HK.out.2.below H1.out).below hOd).below hO4) (by omega)).mono ?_
  rintro e w8 ⟨A8, n8, c8, rfl, hR8, hO8⟩
  refine hK.out _ _ hO8 (fun hHeld => ?_)
  clear hK K
  try simp only [Act.put, List.setIfInBounds_toArray, List.set_cons_zero, List.set_cons_succ]
  refine wpAnyH_old (w1 := w8) hO8 (fun hHeld => ?_) (Old.refl w8)
  refine takeL (i := 9) (v := ?_) rfl (by kernel_rfl) (by kernel_rfl) (by kernel_rfl) (fun _ _ _ h => h) (Or.inl ⟨by rfl, ?_⟩) hHeld ?_
  rotate_left
  focus (intro wq hSw; have hRun := hR8.str_below hSw; clear hSw; go_simp; try with_reducible rfl)
  try simp only [Act.put, List.setIfInBounds_toArray, List.set_cons_zero, List.set_cons_succ]
  refine takeL (i := 10) (v := ?_) rfl (by kernel_rfl) (by kernel_rfl) (by kernel_rfl) (fun _ _ _ h => h) (Or.inl ⟨by rfl, ?_⟩) hHeld ?_
  rotate_left
  focus (intro wq hSw; clear hSw; go_simp; try with_reducible rfl)
  try simp only [Act.put, List.setIfInBounds_toArray, List.set_cons_zero, List.set_cons_succ]
  refine takeL (i := 11) (v := ?_) rfl (by kernel_rfl) (by kernel_rfl) (by kernel_rfl) (fun _ _ _ h => h) (Or.inl ⟨by rfl, ?_⟩) hHeld ?_
  rotate_left
  focus (intro wq hSw; clear hSw; go_simp; try with_reducible rfl)
  try simp only [Act.put, List.setIfInBounds_toArray, List.set_cons_zero, List.set_cons_succ]
  refine takeL (i := 12) (v := ?_) rfl (by kernel_rfl) (by kernel_rfl) (by kernel_rfl) (fun _ _ _ h => h) (Or.inl ⟨by rfl, ?_⟩) hHeld ?_
  rotate_left
  focus (intro wq hSw; clear hSw; go_simp; try with_reducible rfl)
  try simp only [Act.put, List.setIfInBounds_toArray, List.set_cons_zero, List.set_cons_succ]
  refine wpAnyH_done (by kernel_rfl) ?_ _
  refine NoPanic.normal ?_
  have HO := Lib.hid ((H1.out.trans (hOd.trans hO4)).trans hO8)
  clear hOd hHeld hO4 hO8 hR4 hR8
  try simp only [Exit.then]
  try go_at_K
  go_wp2_with fail
  go_ret
  exact ⟨rfl, HO.out⟩
end Go.Proofs.Ytiocmebcbhbcmaa
