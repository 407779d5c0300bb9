/-
  Modes, the document's answer: All of a GCM text that is opened.
  Modes, the document's answer: All in CBC.
-/
import Derived.Test.YtiocmebcbhbcmaaMr10
namespace Go.Proofs.Ytiocmebcbhbcmaa
set_option maxRecDepth 100000
open Go.RowKit

/-- Opened, plainly. -/
def openF (E : List UInt8 → List UInt8) (p b : List UInt8) : List UInt8 × Int :=
  if b.length < 16 then ([], 65) else if gcmT E p (b.take (b.length - 16)) = b.drop (b.length - 16) then (gcmO E p (b.take (b.length - 16)), 0) else ([], 64)
theorem allF_open (k p b : List UInt8) (hk : keyOk k) (hp : gcmOk p) : allF 5 false k p b = openF (encL (rks k) ((rks k).length / 16)) p b := by
  have hpar : parOk 5 p := by unfold parOk; exact hp
  have hf : ((PSof 5 false k p).fin b) = openF (encL (rks k) ((rks k).length / 16)) p b := by
    unfold PS.fin
    rw [if_neg (show ¬ (PSof 5 false k p).mode = 4 from (by show ¬ (5 : Nat) = 4; decide)), if_pos (show (PSof 5 false k p).mode = 5 from rfl), if_neg (show ¬ (PSof 5 false k p).enc = true from (by show ¬ false = true; decide))]
    rfl
  have hfr : (PSof 5 false k p).front b = [] := by unfold PS.front; rw [if_neg (show ¬ (PSof 5 false k p).mode = 4 from (by show ¬ (5 : Nat) = 4; decide)), if_pos (show (PSof 5 false k p).mode = 5 from rfl), if_neg (show ¬ (PSof 5 false k p).enc = true from (by show ¬ false = true; decide))]
  unfold allF
  rw [if_neg (by decide), if_neg (fun h => h hk)]
  show (if ¬ parOk 5 p then _ else _) = _
  rw [if_neg (fun h => h hpar)]
  show (if ((PSof 5 false k p).fin b).2 = 0 then ((PSof 5 false k p).front b ++ ((PSof 5 false k p).fin b).1, 0) else ([], ((PSof 5 false k p).fin b).2)) = _
  rw [hf, hfr]
  unfold openF
  split
  · rfl
  · split
    · rfl
    · rfl
theorem le_R16 {w : World} {A : Option Addr} {m c : Nat} {l : List UInt8} (h : Rd w A m c l) : m ≤ c := h.2.1
/-- What All gives: a row that lies anew. -/
def RvNew (w : World) (r : List UInt8 × Int) (e : Ending) (w' : World) : Prop := ∃ A n c, e = .returned (.tuple #[.slice A n c, .int .i64 r.2]) ∧ Rd w' A n c r.1 ∧ (∀ ad, A = some ad → w.heap.size ≤ ad.block) ∧ Old w w'
theorem RvNew.res {w w' : World} {r : List UInt8 × Int} {e : Ending} (h : RvNew w r e w') : RvRes w r e w' := by
  obtain ⟨A, n, c, h1, h2, _, h3⟩ := h
  exact ⟨A, n, c, h1, h2, h3⟩
theorem RvNew.nil (w w' : World) (rv : Int) (h : Old w w') : RvNew w ([], rv) (.returned (.tuple #[.slice none 0 0, .int .i64 rv])) w' := ⟨none, 0, 0, rfl, Rd.nil _, (fun ad e => by cases e), h⟩
set_option maxHeartbeats 4000000 in
theorem ralln_open (A P C : Option Addr) (mk ck mp cp n cb : Nat) (k p b : List UInt8) (w : World) (hk : Rd w A mk ck k) (hp : Rd w P mp cp p) (hb : Rd w C n cb b) (hko : keyOk k) (hpo : gcmOk p) (hmp : mp ≤ 40000) (hn : n ≤ 40000) :
    Calls Try.prog 15 #[.int .i64 5, .bool false, .slice A mk ck, .slice P mp cp, .slice C n cb] w (RvNew w (openF (encL (rks k) ((rks k).length / 16)) p b)) := by
  have hcall := rnew_any A mk ck k w hk hko
  obtain ⟨TG, hTG⟩ : ∃ T, openF (encL (rks k) ((rks k).length / 16)) p b = T := ⟨_, rfl⟩
  rw [hTG]
  have hcb := le_R16 hb
  obtain ⟨q, hq⟩ : ∃ q, n / 16 = q := ⟨_, rfl⟩
  have hq1 : Int.tdiv (n : Int) 16 = (q : Int) := by rw [Int.tdiv_eq_ediv_of_nonneg (by omega)]; omega
  have hq2 : (n : Int) / 16 = (q : Int) := by omega
  obtain ⟨n5, hn5⟩ : ∃ n5, q * 16 = n5 := ⟨_, rfl⟩
  have hn5i : (q : Int) * 16 = (n5 : Int) := by omega
  have hn5w : IntKind.i64.wrap (n5 : Int) = (n5 : Int) := IntWalk.i64_in _ (by omega)
  have hsl := slice_to C n cb n5 hb.spot (by omega)
  have hnl := hb.1
  have HH := Lib.hid (And.intro hcall (And.intro hp (And.intro hb (And.intro hpo (And.intro hnl hTG)))))
  have HQ := Lib.hid (And.intro hq hn5)
  clear hcall hp hb hk hpo hnl hTG hq hn5
  by_cases h16 : n5 = n
  · have he : ((n5 : Int) == (n : Int)) = true := by simp; omega
    clear h16
    by_cases hlt : n < 16
    · have hli : (n : Int) < 16 := by omega
      have hld : decide ((n : Int) < 16) = true := decide_eq_true hli
      have HT : Hid (TG = ([], 65)) := Lib.hid (by rw [← HH.out.2.2.2.2.2]; unfold openF; rw [if_pos (by rw [← HH.out.2.2.2.2.1]; exact hlt)])
      clear hlt
      go_enter Try.func15, Try.ntmps15
      go_wp2_with fail
      refine HH.out.1.mono ?_
      rintro e w1 ⟨c, kb, R, cap, g1, g2, rfl, hC, hB⟩
      have H1 := Lib.hid hB
      clear hB hC hko
      go_wp2_with fail
      refine bodyPost_ret (results_tmp2 rfl _ _ _) rfl ?_
      rw [HT.out]
      exact RvNew.nil _ _ _ H1.out
    · have hli : ¬ (n : Int) < 16 := by omega
      have hld : decide ((n : Int) < 16) = false := decide_eq_false hli
      obtain ⟨nb, hnb⟩ : ∃ nb, n - 16 = nb := ⟨_, rfl⟩
      have hnbi : (n : Int) - 16 = (nb : Int) := by omega
      have hnbw : IntKind.i64.wrap (nb : Int) = (nb : Int) := IntWalk.i64_in _ (by omega)
      have hnl2 : ¬ b.length < 16 := by rw [← HH.out.2.2.2.2.1]; exact hlt
      have hsb := slice_to C n cb nb HH.out.2.2.1.spot (by omega)
      have hrb := HH.out.2.2.1.front (k := nb) (by omega)
      obtain ⟨A6, n6, c6, hn6, hS6, hR6, _⟩ := HH.out.2.2.1.cut_ex2 (k := nb) (by omega)
      have HN := Lib.hid (And.intro hnb (And.intro hrb (And.intro hR6 (And.intro hnl2 hS6))))
      have hnb4 : nb ≤ 40000 := by omega
      clear hlt hnb hrb hR6 hnl2 hn6 hS6
      go_enter Try.func15, Try.ntmps15
      go_wp2_with fail
      refine HH.out.1.mono ?_
      rintro e w1 ⟨c, kb, R, cap, g1, g2, rfl, hC, hB⟩
      have hR : (rks k).length / 16 = R := by have : (rks k).length = 16 * R := hC.2.2.1; omega
      have hTG := HH.out.2.2.2.2.2
      rw [hR] at hTG
      have hEl : ∀ l : List UInt8, l.length = 16 → (encL (rks k) R l).length = 16 := fun l hl => enc_ne _ R l hl hC.2.2.1
      have hen := REn.of hC
      obtain ⟨E, hE⟩ : ∃ E, encL (rks k) R = E := ⟨_, rfl⟩
      obtain ⟨D, hD⟩ : ∃ D, decL (rks k) R = D := ⟨_, rfl⟩
      rw [hE, hD] at hen
      rw [hE] at hEl hTG
      unfold openF at hTG
      rw [if_neg HN.out.2.2.2.1, ← HH.out.2.2.2.2.1, HN.out.1] at hTG
      obtain ⟨lo, hlo⟩ : ∃ l, gcmO E p (b.take nb) = l := ⟨_, rfl⟩
      obtain ⟨lt, hlt⟩ : ∃ l, gcmT E p (b.take nb) = l := ⟨_, rfl⟩
      obtain ⟨lb, hlb⟩ : ∃ l, b.drop nb = l := ⟨_, rfl⟩
      rw [hlo, hlt, hlb] at hTG
      have hR6 := HN.out.2.2.1
      rw [hlb] at hR6
      have HL := Lib.hid (And.intro hlo (And.intro hlt (And.intro hTG hR6)))
      have H1 := Lib.hid (And.intro hen (And.intro hEl hB))
      clear hC hen hEl hE hD hR hB hko hTG hlo hlt hlb hR6
      go_upto_region 38 with (go_at_call 37; refine (rgcm_any c false E D P C mp cp nb cb p (b.take nb) w1 H1.out.1 H1.out.2.1 (HH.out.2.1.below H1.out.2.2) HH.out.2.2.2.1 hmp (HN.out.2.1.below H1.out.2.2) hnb4).mono ?_; rintro e w4 ⟨A4, n4, c4, A5, c5, rfl, hO4, hR5, _, hB4⟩; have H4 := Lib.hid (And.intro hO4.rd (And.intro hR5 (Old.trans H1.out.2.2 hB4))); have HA4 := Lib.hid (hO4.addr_ge); clear hO4 hR5 hB4)
      have hR4 := H4.out.1
      have hR5 := H4.out.2.1
      unfold gcmX at hR5
      rw [if_neg (by decide), HL.out.2.1] at hR5
      rw [HL.out.1] at hR4
      have HR := Lib.hid (And.intro hR4 (And.intro hR5 (HL.out.2.2.2.below H4.out.2.2)))
      clear hR4 hR5
      refine region_old (by kernel_rfl) (fun wd hHeld hSz => ?_)
      have HSz := Lib.hid hSz
      clear hSz
      have hOd := hHeld
      refine takeL (i := 0) (v := ?_) rfl (by kernel_rfl) (by kernel_rfl) (by kernel_rfl) (fun _ _ _ h => h) (Or.inl ⟨by rfl, ?_⟩) hHeld ?_
      rotate_left
      focus (intro wq hSw; clear hSw; go_simp; try with_reducible rfl)
      try simp only [Act.put, List.setIfInBounds_toArray, List.set_cons_zero, List.set_cons_succ]
      refine takeL (i := 1) (v := ?_) rfl (by kernel_rfl) (by kernel_rfl) (by kernel_rfl) (fun _ _ _ h => h) (Or.inl ⟨by rfl, ?_⟩) hHeld ?_
      rotate_left
      focus (intro wq hSw; have hRun := HR.out.2.1.str_below hSw; clear hSw; go_simp; try with_reducible rfl)
      try simp only [Act.put, List.setIfInBounds_toArray, List.set_cons_zero, List.set_cons_succ]
      refine takeL (i := 2) (v := ?_) rfl (by kernel_rfl) (by kernel_rfl) (by kernel_rfl) (fun _ _ _ h => h) (Or.inl ⟨by rfl, ?_⟩) hHeld ?_
      rotate_left
      focus (intro wq hSw; clear hSw; go_simp; try with_reducible rfl)
      try simp only [Act.put, List.setIfInBounds_toArray, List.set_cons_zero, List.set_cons_succ]
      refine takeL (i := 3) (v := ?_) rfl (by kernel_rfl) (by kernel_rfl) (by kernel_rfl) (fun _ _ _ h => h) (Or.inl ⟨by rfl, ?_⟩) hHeld ?_
      rotate_left
      focus (intro wq hSw; clear hSw; go_simp; try with_reducible rfl)
      try simp only [Act.put, List.setIfInBounds_toArray, List.set_cons_zero, List.set_cons_succ]
      refine takeL (i := 4) (v := ?_) rfl (by kernel_rfl) (by kernel_rfl) (by kernel_rfl) (fun _ _ _ h => h) (Or.inl ⟨by rfl, ?_⟩) hHeld ?_
      rotate_left
      focus (intro wq hSw; clear hSw; go_simp; try with_reducible rfl)
      try simp only [Act.put, List.setIfInBounds_toArray, List.set_cons_zero, List.set_cons_succ]
      refine takeL (i := 5) (v := ?_) rfl (by kernel_rfl) (by kernel_rfl) (by kernel_rfl) (fun _ _ _ h => h) (Or.inl ⟨by rfl, ?_⟩) hHeld ?_
      rotate_left
      focus (intro wq hSw; clear hSw; go_simp; try with_reducible rfl)
      try simp only [Act.put, List.setIfInBounds_toArray, List.set_cons_zero, List.set_cons_succ]
      refine takeL (i := 6) (v := ?_) rfl (by kernel_rfl) (by kernel_rfl) (by kernel_rfl) (fun _ _ _ h => h) (Or.inl ⟨by rfl, ?_⟩) hHeld ?_
      rotate_left
      focus (intro wq hSw; have hRun := HN.out.2.2.2.2 wq; clear hSw; go_simp; try with_reducible rfl)
      try simp only [Act.put, List.setIfInBounds_toArray, List.set_cons_zero, List.set_cons_succ]
      refine takeL (i := 7) (v := ?_) rfl (by kernel_rfl) (by kernel_rfl) (by kernel_rfl) (fun _ _ _ h => h) (Or.inl ⟨by rfl, ?_⟩) hHeld ?_
      rotate_left
      focus (intro wq hSw; have hRun := HR.out.2.2.str_below hSw; clear hSw; go_simp; try with_reducible rfl)
      try simp only [Act.put, List.setIfInBounds_toArray, List.set_cons_zero, List.set_cons_succ]
      refine takeL (i := 8) (v := ?_) rfl (by kernel_rfl) (by kernel_rfl) (by kernel_rfl) (fun _ _ _ h => h) (Or.inl ⟨by rfl, ?_⟩) hHeld ?_
      rotate_left
      focus (intro wq hSw; clear hSw; go_simp; try with_reducible rfl)
      try simp only [Act.put, List.setIfInBounds_toArray, List.set_cons_zero, List.set_cons_succ]
      refine wpAnyH_done (by kernel_rfl) ?_ _
      refine NoPanic.normal ?_
      have HO := Lib.hid (H4.out.2.2.trans hHeld)
      have HOd := Lib.hid (hHeld)
      clear hOd hHeld
      try simp only [Exit.then]
      try go_at_K
      by_cases hq : lt = lb
      · have hT := HL.out.2.2.1
        rw [if_pos hq] at hT
        subst hq
        have HT := Lib.hid hT
        clear hT
        simp only [beq_self_eq_true, Bool.not_true]
        go_wp2_with fail
        refine bodyPost_ret (results_tmp2 rfl _ _ _) rfl ?_
        rw [← HT.out]
        exact ⟨_, _, _, rfl, HR.out.1.below HOd.out, fun ad e => (by have h1 := HA4.out ad e; have h2 := H1.out.2.2.size; omega), HO.out⟩
      · have hT := HL.out.2.2.1
        rw [if_neg hq] at hT
        have HT := Lib.hid hT
        have hbe : (lt == lb) = false := by simpa using hq
        clear hT hq
        simp only [hbe, Bool.not_false]
        go_wp2_with fail
        refine bodyPost_ret (results_tmp2 rfl _ _ _) rfl ?_
        rw [← HT.out]
        exact RvNew.nil _ _ _ HO.out
  · have he : ((n5 : Int) == (n : Int)) = false := by simp; omega
    clear h16
    by_cases hlt : n < 16
    · have hli : (n : Int) < 16 := by omega
      have hld : decide ((n : Int) < 16) = true := decide_eq_true hli
      have HT : Hid (TG = ([], 65)) := Lib.hid (by rw [← HH.out.2.2.2.2.2]; unfold openF; rw [if_pos (by rw [← HH.out.2.2.2.2.1]; exact hlt)])
      clear hlt
      go_enter Try.func15, Try.ntmps15
      go_wp2_with fail
      refine HH.out.1.mono ?_
      rintro e w1 ⟨c, kb, R, cap, g1, g2, rfl, hC, hB⟩
      have H1 := Lib.hid hB
      clear hB hC hko
      go_wp2_with fail
      refine bodyPost_ret (results_tmp2 rfl _ _ _) rfl ?_
      rw [HT.out]
      exact RvNew.nil _ _ _ H1.out
    · have hli : ¬ (n : Int) < 16 := by omega
      have hld : decide ((n : Int) < 16) = false := decide_eq_false hli
      obtain ⟨nb, hnb⟩ : ∃ nb, n - 16 = nb := ⟨_, rfl⟩
      have hnbi : (n : Int) - 16 = (nb : Int) := by omega
      have hnbw : IntKind.i64.wrap (nb : Int) = (nb : Int) := IntWalk.i64_in _ (by omega)
      have hnl2 : ¬ b.length < 16 := by rw [← HH.out.2.2.2.2.1]; exact hlt
      have hsb := slice_to C n cb nb HH.out.2.2.1.spot (by omega)
      have hrb := HH.out.2.2.1.front (k := nb) (by omega)
      obtain ⟨A6, n6, c6, hn6, hS6, hR6, _⟩ := HH.out.2.2.1.cut_ex2 (k := nb) (by omega)
      have HN := Lib.hid (And.intro hnb (And.intro hrb (And.intro hR6 (And.intro hnl2 hS6))))
      have hnb4 : nb ≤ 40000 := by omega
      clear hlt hnb hrb hR6 hnl2 hn6 hS6
      go_enter Try.func15, Try.ntmps15
      go_wp2_with fail
      refine HH.out.1.mono ?_
      rintro e w1 ⟨c, kb, R, cap, g1, g2, rfl, hC, hB⟩
      have hR : (rks k).length / 16 = R := by have : (rks k).length = 16 * R := hC.2.2.1; omega
      have hTG := HH.out.2.2.2.2.2
      rw [hR] at hTG
      have hEl : ∀ l : List UInt8, l.length = 16 → (encL (rks k) R l).length = 16 := fun l hl => enc_ne _ R l hl hC.2.2.1
      have hen := REn.of hC
      obtain ⟨E, hE⟩ : ∃ E, encL (rks k) R = E := ⟨_, rfl⟩
      obtain ⟨D, hD⟩ : ∃ D, decL (rks k) R = D := ⟨_, rfl⟩
      rw [hE, hD] at hen
      rw [hE] at hEl hTG
      unfold openF at hTG
      rw [if_neg HN.out.2.2.2.1, ← HH.out.2.2.2.2.1, HN.out.1] at hTG
      obtain ⟨lo, hlo⟩ : ∃ l, gcmO E p (b.take nb) = l := ⟨_, rfl⟩
      obtain ⟨lt, hlt⟩ : ∃ l, gcmT E p (b.take nb) = l := ⟨_, rfl⟩
      obtain ⟨lb, hlb⟩ : ∃ l, b.drop nb = l := ⟨_, rfl⟩
      rw [hlo, hlt, hlb] at hTG
      have hR6 := HN.out.2.2.1
      rw [hlb] at hR6
      have HL := Lib.hid (And.intro hlo (And.intro hlt (And.intro hTG hR6)))
      have H1 := Lib.hid (And.intro hen (And.intro hEl hB))
      clear hC hen hEl hE hD hR hB hko hTG hlo hlt hlb hR6
      go_upto_region 38 with (go_at_call 37; refine (rgcm_any c false E D P C mp cp nb cb p (b.take nb) w1 H1.out.1 H1.out.2.1 (HH.out.2.1.below H1.out.2.2) HH.out.2.2.2.1 hmp (HN.out.2.1.below H1.out.2.2) hnb4).mono ?_; rintro e w4 ⟨A4, n4, c4, A5, c5, rfl, hO4, hR5, _, hB4⟩; have H4 := Lib.hid (And.intro hO4.rd (And.intro hR5 (Old.trans H1.out.2.2 hB4))); have HA4 := Lib.hid (hO4.addr_ge); clear hO4 hR5 hB4)
      have hR4 := H4.out.1
      have hR5 := H4.out.2.1
      unfold gcmX at hR5
      rw [if_neg (by decide), HL.out.2.1] at hR5
      rw [HL.out.1] at hR4
      have HR := Lib.hid (And.intro hR4 (And.intro hR5 (HL.out.2.2.2.below H4.out.2.2)))
      clear hR4 hR5
      refine region_old (by kernel_rfl) (fun wd hHeld hSz => ?_)
      have HSz := Lib.hid hSz
      clear hSz
      have hOd := hHeld
      refine takeL (i := 0) (v := ?_) rfl (by kernel_rfl) (by kernel_rfl) (by kernel_rfl) (fun _ _ _ h => h) (Or.inl ⟨by rfl, ?_⟩) hHeld ?_
      rotate_left
      focus (intro wq hSw; clear hSw; go_simp; try with_reducible rfl)
      try simp only [Act.put, List.setIfInBounds_toArray, List.set_cons_zero, List.set_cons_succ]
      refine takeL (i := 1) (v := ?_) rfl (by kernel_rfl) (by kernel_rfl) (by kernel_rfl) (fun _ _ _ h => h) (Or.inl ⟨by rfl, ?_⟩) hHeld ?_
      rotate_left
      focus (intro wq hSw; have hRun := HR.out.2.1.str_below hSw; clear hSw; go_simp; try with_reducible rfl)
      try simp only [Act.put, List.setIfInBounds_toArray, List.set_cons_zero, List.set_cons_succ]
      refine takeL (i := 2) (v := ?_) rfl (by kernel_rfl) (by kernel_rfl) (by kernel_rfl) (fun _ _ _ h => h) (Or.inl ⟨by rfl, ?_⟩) hHeld ?_
      rotate_left
      focus (intro wq hSw; clear hSw; go_simp; try with_reducible rfl)
      try simp only [Act.put, List.setIfInBounds_toArray, List.set_cons_zero, List.set_cons_succ]
      refine takeL (i := 3) (v := ?_) rfl (by kernel_rfl) (by kernel_rfl) (by kernel_rfl) (fun _ _ _ h => h) (Or.inl ⟨by rfl, ?_⟩) hHeld ?_
      rotate_left
      focus (intro wq hSw; clear hSw; go_simp; try with_reducible rfl)
      try simp only [Act.put, List.setIfInBounds_toArray, List.set_cons_zero, List.set_cons_succ]
      refine takeL (i := 4) (v := ?_) rfl (by kernel_rfl) (by kernel_rfl) (by kernel_rfl) (fun _ _ _ h => h) (Or.inl ⟨by rfl, ?_⟩) hHeld ?_
      rotate_left
      focus (intro wq hSw; clear hSw; go_simp; try with_reducible rfl)
      try simp only [Act.put, List.setIfInBounds_toArray, List.set_cons_zero, List.set_cons_succ]
      refine takeL (i := 5) (v := ?_) rfl (by kernel_rfl) (by kernel_rfl) (by kernel_rfl) (fun _ _ _ h => h) (Or.inl ⟨by rfl, ?_⟩) hHeld ?_
      rotate_left
      focus (intro wq hSw; clear hSw; go_simp; try with_reducible rfl)
      try simp only [Act.put, List.setIfInBounds_toArray, List.set_cons_zero, List.set_cons_succ]
      refine takeL (i := 6) (v := ?_) rfl (by kernel_rfl) (by kernel_rfl) (by kernel_rfl) (fun _ _ _ h => h) (Or.inl ⟨by rfl, ?_⟩) hHeld ?_
      rotate_left
      focus (intro wq hSw; have hRun := HN.out.2.2.2.2 wq; clear hSw; go_simp; try with_reducible rfl)
      try simp only [Act.put, List.setIfInBounds_toArray, List.set_cons_zero, List.set_cons_succ]
      refine takeL (i := 7) (v := ?_) rfl (by kernel_rfl) (by kernel_rfl) (by kernel_rfl) (fun _ _ _ h => h) (Or.inl ⟨by rfl, ?_⟩) hHeld ?_
      rotate_left
      focus (intro wq hSw; have hRun := HR.out.2.2.str_below hSw; clear hSw; go_simp; try with_reducible rfl)
      try simp only [Act.put, List.setIfInBounds_toArray, List.set_cons_zero, List.set_cons_succ]
      refine takeL (i := 8) (v := ?_) rfl (by kernel_rfl) (by kernel_rfl) (by kernel_rfl) (fun _ _ _ h => h) (Or.inl ⟨by rfl, ?_⟩) hHeld ?_
      rotate_left
      focus (intro wq hSw; clear hSw; go_simp; try with_reducible rfl)
      try simp only [Act.put, List.setIfInBounds_toArray, List.set_cons_zero, List.set_cons_succ]
      refine wpAnyH_done (by kernel_rfl) ?_ _
      refine NoPanic.normal ?_
      have HO := Lib.hid (H4.out.2.2.trans hHeld)
      have HOd := Lib.hid (hHeld)
      clear hOd hHeld
      try simp only [Exit.then]
      try go_at_K
      by_cases hq : lt = lb
      · have hT := HL.out.2.2.1
        rw [if_pos hq] at hT
        subst hq
        have HT := Lib.hid hT
        clear hT
        simp only [beq_self_eq_true, Bool.not_true]
        go_wp2_with fail
        refine bodyPost_ret (results_tmp2 rfl _ _ _) rfl ?_
        rw [← HT.out]
        exact ⟨_, _, _, rfl, HR.out.1.below HOd.out, fun ad e => (by have h1 := HA4.out ad e; have h2 := H1.out.2.2.size; omega), HO.out⟩
      · have hT := HL.out.2.2.1
        rw [if_neg hq] at hT
        have HT := Lib.hid hT
        have hbe : (lt == lb) = false := by simpa using hq
        clear hT hq
        simp only [hbe, Bool.not_false]
        go_wp2_with fail
        refine bodyPost_ret (results_tmp2 rfl _ _ _) rfl ?_
        rw [← HT.out]
        exact RvNew.nil _ _ _ HO.out
theorem rall_open (A P C : Option Addr) (mk ck mp cp n cb : Nat) (k p b : List UInt8) (w : World) (hk : Rd w A mk ck k) (hp : Rd w P mp cp p) (hb : Rd w C n cb b) (hko : keyOk k) (hpo : gcmOk p) (hmp : mp ≤ 40000) (hn : n ≤ 40000) :
    Calls Try.prog 15 #[.int .i64 5, .bool false, .slice A mk ck, .slice P mp cp, .slice C n cb] w (RvRes w (openF (encL (rks k) ((rks k).length / 16)) p b)) := (ralln_open A P C mk ck mp cp n cb k p b w hk hp hb hko hpo hmp hn).mono fun _ _ h => h.res
end Go.Proofs.Ytiocmebcbhbcmaa
namespace Go.Proofs.Ytiocmebcbhbcmaa
set_option maxRecDepth 100000
open Go.RowKit

set_option maxHeartbeats 4000000 in
/-- The RV of a text that is no whole number of blocks. -/
def shortV (enc : Bool) (n : Nat) : Int := if n / 16 * 16 = n then 0 else if enc then 33 else 65
theorem ralln_cbc (enc : Bool) (A P C : Option Addr) (mk ck cp n cb : Nat) (k p b : List UInt8) (w : World) (hk : Rd w A mk ck k) (hp : Rd w P 16 cp p) (hb : Rd w C n cb b) (hko : keyOk k) (hn : n ≤ 40000) :
    Calls Try.prog 15 #[.int .i64 2, .bool enc, .slice A mk ck, .slice P 16 cp, .slice C n cb] w (RvNew w ((blkN 2 enc (encL (rks k) ((rks k).length / 16)) (decL (rks k) ((rks k).length / 16)) (n / 16) p b).1, shortV enc n)) := by
  have hcall := rnew_any A mk ck k w hk hko
  obtain ⟨TG, hTG⟩ : ∃ T, (blkN 2 enc (encL (rks k) ((rks k).length / 16)) (decL (rks k) ((rks k).length / 16)) (n / 16) p b).1 = T := ⟨_, rfl⟩
  obtain ⟨SV, hSV⟩ : ∃ T, shortV enc n = T := ⟨_, rfl⟩
  rw [hTG, hSV]
  have hcb := le_R16 hb
  obtain ⟨q, hq⟩ : ∃ q, n / 16 = q := ⟨_, rfl⟩
  have hq1 : Int.tdiv (n : Int) 16 = (q : Int) := by rw [Int.tdiv_eq_ediv_of_nonneg (by omega)]; omega
  have hq2 : (n : Int) / 16 = (q : Int) := by omega
  obtain ⟨n5, hn5⟩ : ∃ n5, q * 16 = n5 := ⟨_, rfl⟩
  have hn5i : (q : Int) * 16 = (n5 : Int) := by omega
  have hn5w : IntKind.i64.wrap (n5 : Int) = (n5 : Int) := IntWalk.i64_in _ (by omega)
  have hsl := slice_to C n cb n5 hb.spot (by omega)
  have hfr := hb.front (k := n5) (by omega)
  have hbl := hb.1
  have hsame : blkN 2 enc (encL (rks k) ((rks k).length / 16)) (decL (rks k) ((rks k).length / 16)) (n / 16) p b = blkN 2 enc (encL (rks k) ((rks k).length / 16)) (decL (rks k) ((rks k).length / 16)) (n5 / 16) p (b.take n5) := by
    rw [show n5 / 16 = n / 16 by omega]
    conv => lhs; rw [← List.take_append_drop n5 b]
    exact blkN_front 2 enc _ _ (n / 16) p (b.take n5) (b.drop n5) (by rw [List.length_take]; omega)
  rw [hsame] at hTG
  have hn5b : n5 ≤ n := by omega
  have hsv : SV = if n5 = n then 0 else if enc then 33 else 65 := by rw [← hSV]; unfold shortV; rw [hq, hn5]
  have HH := Lib.hid (And.intro hcall (And.intro hp (And.intro hfr (And.intro hTG hsv))))
  have HQ := Lib.hid (And.intro hq hn5)
  clear hcall hp hb hk hTG hq hn5 hfr hbl hsame hSV hsv
  by_cases h16 : n5 = n
  · have he : ((n5 : Int) == (n : Int)) = true := by simp; omega
    have hsv := HH.out.2.2.2.2
    rw [if_pos h16] at hsv
    have HS := Lib.hid hsv
    clear h16 hsv
    cases enc
    all_goals
      go_enter Try.func15, Try.ntmps15
      go_wp2_with fail
      refine HH.out.1.mono ?_
      rintro e w1 ⟨c, kb, R, cap, g1, g2, rfl, hC, hB⟩
      have hR : (rks k).length / 16 = R := by have : (rks k).length = 16 * R := hC.2.2.1; omega
      have hTG := HH.out.2.2.2.1
      rw [hR] at hTG
      have hen := REn.of hC
      obtain ⟨E, hE⟩ : ∃ E, encL (rks k) R = E := ⟨_, rfl⟩
      obtain ⟨D, hD⟩ : ∃ D, decL (rks k) R = D := ⟨_, rfl⟩
      rw [hE, hD] at hen hTG
      have H1 := Lib.hid (And.intro hen (And.intro hB hTG))
      clear hC hen hE hD hR hB hko hTG
      go_wp2_with (go_at_call 34; refine (rcbc_any c _ E D P C cp n5 cb p (b.take n5) w1 H1.out.1 (HH.out.2.1.below H1.out.2.1) (HH.out.2.2.1.below H1.out.2.1) (by omega)).mono ?_; rintro e w4 ⟨A4, n4, c4, rfl, hO4, hB4⟩; have H4 := Lib.hid (And.intro hO4 hB4); clear hO4 hB4)
      refine bodyPost_ret (results_tmp2 rfl _ _ _) rfl ?_
      rw [HS.out, ← H1.out.2.2]
      exact ⟨_, _, _, rfl, H4.out.1.rd, fun ad e => (by have h1 := H4.out.1.addr_ge ad e; have h2 := H1.out.2.1.size; omega), Old.trans H1.out.2.1 H4.out.2⟩
  · have he : ((n5 : Int) == (n : Int)) = false := by simp; omega
    have hsv := HH.out.2.2.2.2
    rw [if_neg h16] at hsv
    have HS := Lib.hid hsv
    clear h16 hsv
    cases enc
    all_goals
      go_enter Try.func15, Try.ntmps15
      go_wp2_with fail
      refine HH.out.1.mono ?_
      rintro e w1 ⟨c, kb, R, cap, g1, g2, rfl, hC, hB⟩
      have hR : (rks k).length / 16 = R := by have : (rks k).length = 16 * R := hC.2.2.1; omega
      have hTG := HH.out.2.2.2.1
      rw [hR] at hTG
      have hen := REn.of hC
      obtain ⟨E, hE⟩ : ∃ E, encL (rks k) R = E := ⟨_, rfl⟩
      obtain ⟨D, hD⟩ : ∃ D, decL (rks k) R = D := ⟨_, rfl⟩
      rw [hE, hD] at hen hTG
      have H1 := Lib.hid (And.intro hen (And.intro hB hTG))
      clear hC hen hE hD hR hB hko hTG
      go_wp2_with (go_at_call 34; refine (rcbc_any c _ E D P C cp n5 cb p (b.take n5) w1 H1.out.1 (HH.out.2.1.below H1.out.2.1) (HH.out.2.2.1.below H1.out.2.1) (by omega)).mono ?_; rintro e w4 ⟨A4, n4, c4, rfl, hO4, hB4⟩; have H4 := Lib.hid (And.intro hO4 hB4); clear hO4 hB4)
      refine bodyPost_ret (results_tmp2 rfl _ _ _) rfl ?_
      rw [HS.out, ← H1.out.2.2]
      exact ⟨_, _, _, rfl, H4.out.1.rd, fun ad e => (by have h1 := H4.out.1.addr_ge ad e; have h2 := H1.out.2.1.size; omega), Old.trans H1.out.2.1 H4.out.2⟩
end Go.Proofs.Ytiocmebcbhbcmaa
